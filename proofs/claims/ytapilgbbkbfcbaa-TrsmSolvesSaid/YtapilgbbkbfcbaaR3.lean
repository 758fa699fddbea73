/- Layer 14: products taken away column by column: what the code computes. -/
import Derived.Test.YtapilgbbkbfcbaaR2
namespace Go.Proofs.Ytapilgbbkbfcbaa
open Go Go.RowKit

def one64 : Nat := 4607182418800017408
def neg64 : Nat := 13830554455654793216
/-- A column less a product. -/
def lessC (M : Nat → Nat → Nat) (R K : Nat) (y z : Nat → Nat) : Nat → Nat := mulJ neg64 R M y K (begN one64 R z)

set_option maxRecDepth 100000
set_option maxHeartbeats 4000000 in
theorem tless_calls (bm om nm cm : Nat) (offm ld : Int) (by1 oy ny cy : Nat) (offy ldy : Int) (b o n c : Nat) (off ldx : Int) (R K C : Nat) (w : World) (Y Z M : Nat → Nat → Nat)
    (hs : (nm : Int) ≤ lim) (h1 : I64 offm) (h4 : I64 ld) (hg : goodP nm offm R K ld)
    (hsy : (ny : Int) ≤ lim) (y1 : I64 offy) (y3 : I64 ldy) (hgy : goodP ny offy K C ldy)
    (hs' : (n : Int) ≤ lim) (h1' : I64 off) (h3' : I64 ldx) (hg' : goodP n off R C ldx) (hRi : I64 R) (hKi : I64 K) (hCi : I64 C)
    (hsame : bm = b → om = o) (hmt : ¬ meetP (some ⟨b, o, none⟩) off R C ldx (some ⟨bm, om, none⟩) offm R K ld) (hab : (⟨b, o, none⟩ : Addr) ≠ ⟨bm, om, none⟩ → ApartOK w ⟨b, o, none⟩ ⟨bm, om, none⟩)
    (hsame2 : by1 = b → oy = o) (hyz : ∀ j : Nat, j < C → ¬ meetP (some ⟨b, o, none⟩) (colOff off R ldx j) 1 R 1 (some ⟨by1, oy, none⟩) (colOff offy K ldy j) 1 K 1) (hab2 : (⟨b, o, none⟩ : Addr) ≠ ⟨by1, oy, none⟩ → ApartOK w ⟨b, o, none⟩ ⟨by1, oy, none⟩)
    (hsepY : by1 = b → ∀ p, MS oy offy ldy K C p → ¬ MS o off ldx R C p)
    (hZ : MAt w b o off ldx R C Z) (hY : MAt w by1 oy offy ldy K C Y) (hM : MAt w bm om offm ld R K M)
    (hf : ∀ p : Nat, MS o off ldx R C p → w.frozen? ⟨b, p, none⟩ = false) (hby : b < w.heap.size) :
    Calls Try.prog 33 #[.agg #[.slice (some ⟨bm, om, none⟩) nm cm, .int .i64 offm, .int .i64 R, .int .i64 K, .int .i64 ld],
        .agg #[.slice (some ⟨by1, oy, none⟩) ny cy, .int .i64 offy, .int .i64 K, .int .i64 C, .int .i64 ldy], .agg #[.slice (some ⟨b, o, none⟩) n c, .int .i64 off, .int .i64 R, .int .i64 C, .int .i64 ldx]] w
      fun e w' => e = .returned (.tuple #[]) ∧ WrB w w' b (MS o off ldx R C) ∧ MAt w' b o off ldx R C (colsN (fun j => lessC M R K (fun k => Y k j)) C Z) := by
  have hC9 : (C : Int) ≤ 9223372036854775807 := hCi.2
  have hoff : 0 ≤ off := hg'.2.2.1
  have hld : 1 ≤ ldx := hg'.2.2.2.1
  have hRl : (R : Int) ≤ ldx := hg'.2.2.2.2.1
  have HG := Lib.hid hg
  have HG' := Lib.hid hg'
  have HGY := Lib.hid hgy
  have HZ := Lib.hid hZ
  have HY := Lib.hid hY
  have HM := Lib.hid hM
  have HF := Lib.hid hf
  have HMT := Lib.hid hmt
  have HYZ := Lib.hid hyz
  have HSY := Lib.hid hsepY
  have HAB := Lib.hid hab
  have HAB2 := Lib.hid hab2
  clear hg hg' hgy hZ hY hM hf hmt hyz hsepY hab hab2
  go_enter Try.func33, Try.ntmps33
  go_wp2
  refine gen_world (fun W hW => ?_)
  have hB : BL w W := by rw [hW]; exact (((Below.refl _ _).alloc (Nat.le_refl _) _).alloc (by simp) _).alloc (by first | (simp; done) | (simp; omega)) _
  have hbm : W.heap[w.heap.size]? = some (.cells #[.slice (some ⟨bm, om, none⟩) nm cm, .int .i64 offm, .int .i64 R, .int .i64 K, .int .i64 ld] 24 (0, 0)) := by
    rw [hW]; rw [Below.heap_alloc _ _ _ (by first | (simp; done) | (simp; omega)), Below.heap_alloc _ _ _ (by first | (simp; done) | (simp; omega))]; exact new_row _ _
  have hbyr : W.heap[w.heap.size + 1]? = some (.cells #[.slice (some ⟨by1, oy, none⟩) ny cy, .int .i64 offy, .int .i64 K, .int .i64 C, .int .i64 ldy] 24 (0, 0)) := by
    rw [hW]; rw [Below.heap_alloc _ _ _ (by first | (simp; done) | (simp; omega))]; have := fun w2 : World => fun h : w2.heap.size = w.heap.size + 1 => h ▸ new_row w2 (.cells #[.slice (some ⟨by1, oy, none⟩) ny cy, .int .i64 offy, .int .i64 K, .int .i64 C, .int .i64 ldy] 24); exact this _ (by simp)
  have hbx : W.heap[w.heap.size + 2]? = some (.cells #[.slice (some ⟨b, o, none⟩) n c, .int .i64 off, .int .i64 R, .int .i64 C, .int .i64 ldx] 24 (0, 0)) := by
    rw [hW]; have := fun w2 : World => fun h : w2.heap.size = w.heap.size + 2 => h ▸ new_row w2 (.cells #[.slice (some ⟨b, o, none⟩) n c, .int .i64 off, .int .i64 R, .int .i64 C, .int .i64 ldx] 24); exact this _ (by simp)
  clear hW
  go_loopw [9] (fun jv wr => ∃ j : Nat, j ≤ C ∧ jv = .int .i64 j ∧ WrB W wr b (MS o off ldx R C) ∧ MAt wr b o off ldx R C (colsN (fun j => lessC M R K (fun k => Y k j)) j Z)) (fun jv _ => (C - intOf jv).toNat)
  case atStart => exact ⟨0, Nat.zero_le _, rfl, WrB.refl _ _ _, by rw [colsN_none]; exact HZ.out.later hB⟩
  case round =>
    obtain ⟨j, hj, rfl, hwr, hxr⟩ := hrel
    by_cases hlt : j < C
    · have q1 := hwr.keep hbm (by omega)
      have q2 := hwr.keep hbyr (by omega)
      have q3 := hwr.keep hbx (by omega)
      have HXR := Lib.hid hxr
      have HWR := Lib.hid hwr
      clear hxr hwr
      go_wp2
      refine wp_region_calm_tail 7 (by kernel_rfl) (by kernel_rfl) (BL wr) (fun _ _ _ => False) (BL.refl _).drew ?_
      simp only [List.take_succ_cons, List.take_zero, List.drop_succ_cons, List.drop_zero]
      repeat (first
        | (refine cmMove _ (by rfl) ?_; simp only [List.set_cons_succ, List.set_cons_zero])
        | (refine cwW (by rfl) (fun K hK w' hw => ?_); have k1 := cells_of (hw.row q1); have k2 := cells_of (hw.row q2); have k3 := cells_of (hw.row q3); go_step; refine hK _ _ hw ?_; clear hK k1 k2 k3 hw w' K))
      refine cwF (fun F hF w' hw => ?_); go_simp
      with_reducible refine calm_call (by kernel_rfl) hw (col_in _ _ _ _ _ _ _ _ _ hsy y1 hKi hCi y3 HGY.out (by omega) (by omega)) (hF _ ?_)
      clear hF hw w' F; simp only [put_lit, List.set_cons_succ, List.set_cons_zero]
      repeat (first
        | (refine cmMove _ (by rfl) ?_; simp only [List.set_cons_succ, List.set_cons_zero])
        | (refine cwW (by rfl) (fun K hK w' hw => ?_); have k1 := cells_of (hw.row q1); have k2 := cells_of (hw.row q2); have k3 := cells_of (hw.row q3); go_step; refine hK _ _ hw ?_; clear hK k1 k2 k3 hw w' K))
      refine cwF (fun F hF w' hw => ?_); go_simp
      with_reducible refine calm_call (by kernel_rfl) hw (col_in _ _ _ _ _ _ _ _ _ hs' h1' hRi hCi h3' HG'.out (by omega) (by omega)) (hF _ ?_)
      clear hF hw w' F; simp only [put_lit, List.set_cons_succ, List.set_cons_zero]
      refine wpCalm_nil (fun w6 hw6 => ?_)
      go_wp2_with fail
      have hWr6 := HWR.out.trans (WrB.of_below hw6 b (MS o off ldx R C))
      have hmt2 := meet_sub HMT.out (sub_col (j := (j : Int)) (by omega) (by omega) hld) (SubSpan.refl _ _ _ _)
      have hrc := right_col (j := (j : Int)) HG'.out (by omega) (by omega)
      have hry := right_col (j := (j : Int)) HGY.out (by omega) (by omega)
      have hX6 := (HXR.out.col hlt).later hw6
      rw [colsN_at] at hX6
      have hY6 := ((HY.out.later hB).keepS hWr6 HSY.out).col hlt
      have hM6 : MAt w6 bm om offm ld R K M := (HM.out.later hB).keepS hWr6 (fun hb p hp hp' => by
        obtain ⟨i1, j1, hi1, hj1, e1⟩ := hp
        obtain ⟨i2, j2, hi2, hj2, e2⟩ := hp'
        have hm := meet_sub HMT.out (sub_col (j := (j2 : Int)) (by omega) (by omega) hld) (SubSpan.refl _ _ _ _)
        have hs3 := sep_of_meet hsame HG.out (right_col (j := (j2 : Int)) HG'.out (by omega) (by omega)) hm i1 j1 i2 hi1 hj1 hi2 hb
        rw [show colOff off R ldx j2 = off + j2 * ldx from if_pos (by omega), Int.mul_one, show off + (j2 : Int) * ldx + (i2 : Int) = off + (i2 : Int) + (j2 : Int) * ldx by omega] at hs3
        omega)
      have hI1 : I64 1 := by unfold I64; omega
      have hwz := hWr6.size
      have hBz := hB.size
      refine (gemv_calls neg64 one64 bm om by1 oy b o nm cm ny cy n c offm ld _ 1 _ 1 R K w6 (fun k => Y k j) (fun i => Z i j) M hs h1 hRi hKi h4 HG.out hsy (i64_col hsy y1 HGY.out (by omega) (by omega)) hI1 hry hs' (i64_col hs' h1' HG'.out (by omega) (by omega)) hI1 hrc hmt2 (HYZ.out j hlt)
        (fun h => ApartOK.wr (ApartOK.later hB (HAB.out h)) hWr6) (fun h => ApartOK.wr (ApartOK.later hB (HAB2.out h)) hWr6) hY6 hM6 hX6 (sep_of_meet hsame HG.out hrc hmt2) (xsep_of_meet hsame2 hry hrc (HYZ.out j hlt)) (fun k hk => ?_) (by omega)).mono ?_
      · obtain ⟨v5, _, hc5, _⟩ := HZ.out.col hlt k hk
        rw [hWr6.frozen (hB.cell hc5), hB.frozen hby]
        exact HF.out _ (col_places hlt ⟨k, hk, rfl⟩)
      rintro e w7 ⟨rfl, hw7, hx7⟩
      go_wp2
      go_roundw
      case rel =>
        refine ⟨j + 1, by omega, by go_num, hWr6.trans (hw7.mono fun p hp => col_places hlt hp), ?_⟩
        rw [colsN_more]
        exact (HXR.out.later hw6).put_col hoff hRl hw7 hx7
      case measure => first | (simp [intOf]; done) | (simp [intOf]; omega)
    · have hjC : j = C := by omega
      subst hjC
      have HXR := Lib.hid hxr
      have HWR := Lib.hid hwr
      clear hxr hwr
      go_wp2
      go_end0
      exact ⟨rfl, (WrB.of_below hB _ _).trans HWR.out, HXR.out⟩
end Go.Proofs.Ytapilgbbkbfcbaa
