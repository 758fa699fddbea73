/- Layer 14: columns solved one by one: what the code computes. -/
import Derived.Test.YtapilgbbkbfcbaaR1
import Derived.Test.YtapilgbbkbfcbaaS4
namespace Go.Proofs.Ytapilgbbkbfcbaa
open Go Go.RowKit

/-- What solves a system of kind 1 or 2. -/
def sol (kind : Int) (M : Nat → Nat → Nat) (N : Nat) (X : Nat → Nat) : Nat → Nat := if kind = 1 then lowN M N N X else upN M N N X
/-- The first j columns are turned. -/
def colsN (f : Nat → (Nat → Nat) → Nat → Nat) (j : Nat) (X : Nat → Nat → Nat) : Nat → Nat → Nat := fun i k => if k < j then f k (fun i => X i k) i else X i k
theorem colsN_none (f : Nat → (Nat → Nat) → Nat → Nat) (X : Nat → Nat → Nat) : colsN f 0 X = X := by funext i k; simp [colsN]
theorem colsN_at (f : Nat → (Nat → Nat) → Nat → Nat) (j : Nat) (X : Nat → Nat → Nat) : (fun i => colsN f j X i j) = fun i => X i j := by funext i; simp [colsN]
theorem colsN_more (f : Nat → (Nat → Nat) → Nat → Nat) (j : Nat) (X : Nat → Nat → Nat) : colsN f (j + 1) X = setCol (colsN f j X) j (f j (fun i => X i j)) := by
  funext i k
  unfold colsN setCol
  by_cases h : k = j
  · subst h; simp
  · by_cases h2 : k < j
    · simp only [if_neg h, if_pos h2]; rw [if_pos (by omega)]
    · simp only [if_neg h, if_neg h2]; rw [if_neg (by omega)]

theorem WrB.rowc {w w1 : World} {g : Nat} {S : Nat → Prop} (h : WrB w w1 g S) {r : Nat} {cs : Array Value} {T : TypeId} {z : Nat × Nat} (hr : w.heap[r]? = some (.cells cs T z)) : ∃ cs' : Array Value, w1.heap[r]? = some (.cells cs' T z) ∧ cs'.size = cs.size := by
  by_cases hg : r = g
  · subst hg
    obtain ⟨cs', h1, h2, _⟩ := h.row _ _ _ hr
    exact ⟨cs', h1, h2⟩
  · exact ⟨cs, h.keep hr hg, rfl⟩
theorem ApartOK.wr {w w1 : World} {a b : Addr} {g : Nat} {S : Nat → Prop} (hh : ApartOK w a b) (h : WrB w w1 g S) : ApartOK w1 a b := by
  obtain ⟨ca, cb, ta, tb, fa, fb, h1, h2, h3, h4, h5⟩ := hh
  obtain ⟨ca', e1, e2⟩ := h.rowc h1
  obtain ⟨cb', e3, e4⟩ := h.rowc h2
  exact ⟨ca', cb', ta, tb, fa, fb, e1, e3, by omega, by omega, h5⟩
theorem solve12 (kind : Int) (hk : kind = 1 ∨ kind = 2) (bm om nm cm : Nat) (offm ld : Int) (b o n c : Nat) (off inc : Int) (N : Nat) (w : World) (X : Nat → Nat) (M : Nat → Nat → Nat)
    (hs : (nm : Int) ≤ lim) (h1 : I64 offm) (h4 : I64 ld) (hg : goodP nm offm N N ld)
    (hs' : (n : Int) ≤ lim) (h1' : I64 off) (h3' : I64 inc) (hg' : rightP n off N inc) (hNi : I64 N)
    (hmt : ¬ meetP (some ⟨b, o, none⟩) off 1 N inc (some ⟨bm, om, none⟩) offm N N ld) (hab : (⟨b, o, none⟩ : Addr) ≠ ⟨bm, om, none⟩ → ApartOK w ⟨b, o, none⟩ ⟨bm, om, none⟩)
    (hX : XAt w b o off inc N X) (hM : MAt w bm om offm ld N N M) (hsep : MXSep bm om offm ld N N b o off inc N) (hd : kind = 2 → ∀ k, k < N → feq (M k k) 0 = false)
    (hf : ∀ k : Nat, k < N → w.frozen? ⟨b, o + (off + (k : Int) * inc).toNat, none⟩ = false) :
    Calls Try.prog 62 #[.int .i64 kind, .agg #[.slice (some ⟨bm, om, none⟩) nm cm, .int .i64 offm, .int .i64 N, .int .i64 N, .int .i64 ld], .agg #[.slice (some ⟨b, o, none⟩) n c, .int .i64 off, .int .i64 N, .int .i64 inc]] w
      fun e w' => e = .returned (.int .i64 0) ∧ WrB w w' b (XS o off inc N) ∧ XAt w' b o off inc N (sol kind M N X) := by
  rcases hk with rfl | rfl
  · exact solve1 bm om nm cm offm ld b o n c off inc N w X M hs h1 h4 hg hs' h1' h3' hg' hNi hmt hab hX hM hsep hf
  · exact solve2 bm om nm cm offm ld b o n c off inc N w X M hs h1 h4 hg hs' h1' h3' hg' hNi hmt hab hX hM hsep (DiagOK.of_mat hM (hd rfl)) hf

set_option maxRecDepth 100000
set_option maxHeartbeats 4000000 in
theorem tcolumns_calls (kind : Int) (hk : kind = 1 ∨ kind = 2) (bm om nm cm : Nat) (offm ld : Int) (b o n c : Nat) (off ldx : Int) (N C : Nat) (w : World) (X M : Nat → Nat → Nat)
    (hs : (nm : Int) ≤ lim) (h1 : I64 offm) (h4 : I64 ld) (hg : goodP nm offm N N ld)
    (hs' : (n : Int) ≤ lim) (h1' : I64 off) (h3' : I64 ldx) (hg' : goodP n off N C ldx) (hNi : I64 N) (hCi : I64 C)
    (hsame : bm = b → om = o) (hmt : ¬ meetP (some ⟨b, o, none⟩) off N C ldx (some ⟨bm, om, none⟩) offm N N ld) (hab : (⟨b, o, none⟩ : Addr) ≠ ⟨bm, om, none⟩ → ApartOK w ⟨b, o, none⟩ ⟨bm, om, none⟩)
    (hX : MAt w b o off ldx N C X) (hM : MAt w bm om offm ld N N M) (hd : kind = 2 → ∀ k, k < N → feq (M k k) 0 = false)
    (hf : ∀ p : Nat, MS o off ldx N C p → w.frozen? ⟨b, p, none⟩ = false) (hby : b < w.heap.size) :
    Calls Try.prog 31 #[.int .i64 kind, .agg #[.slice (some ⟨bm, om, none⟩) nm cm, .int .i64 offm, .int .i64 N, .int .i64 N, .int .i64 ld], .agg #[.slice (some ⟨b, o, none⟩) n c, .int .i64 off, .int .i64 N, .int .i64 C, .int .i64 ldx]] w
      fun e w' => e = .returned (.tuple #[]) ∧ WrB w w' b (MS o off ldx N C) ∧ MAt w' b o off ldx N C (colsN (fun _ => sol kind M N) C X) := by
  have hC9 : (C : Int) ≤ 9223372036854775807 := hCi.2
  have hoff : 0 ≤ off := hg'.2.2.1
  have hld : 1 ≤ ldx := hg'.2.2.2.1
  have hRl : (N : Int) ≤ ldx := hg'.2.2.2.2.1
  have HG := Lib.hid hg
  have HG' := Lib.hid hg'
  have HX := Lib.hid hX
  have HM := Lib.hid hM
  have HF := Lib.hid hf
  have HMT := Lib.hid hmt
  have HAB := Lib.hid hab
  have HD := Lib.hid hd
  clear hg hg' hX hM hf hmt hab hd
  go_enter Try.func31, Try.ntmps31
  go_wp2
  refine gen_world (fun W hW => ?_)
  have hB : BL w W := by rw [hW]; exact ((Below.refl _ _).alloc (Nat.le_refl _) _).alloc (by simp) _
  have hbm : W.heap[w.heap.size]? = some (.cells #[.slice (some ⟨bm, om, none⟩) nm cm, .int .i64 offm, .int .i64 N, .int .i64 N, .int .i64 ld] 24 (0, 0)) := by
    rw [hW]; rw [Below.heap_alloc _ _ _ (by first | (simp; done) | (simp; omega))]; exact new_row _ _
  have hbx : W.heap[w.heap.size + 1]? = some (.cells #[.slice (some ⟨b, o, none⟩) n c, .int .i64 off, .int .i64 N, .int .i64 C, .int .i64 ldx] 24 (0, 0)) := by
    rw [hW]; have := fun w2 : World => fun h : w2.heap.size = w.heap.size + 1 => h ▸ new_row w2 (.cells #[.slice (some ⟨b, o, none⟩) n c, .int .i64 off, .int .i64 N, .int .i64 C, .int .i64 ldx] 24); exact this _ (by simp)
  clear hW
  go_loopw [9] (fun jv wr => ∃ j : Nat, j ≤ C ∧ jv = .int .i64 j ∧ WrB W wr b (MS o off ldx N C) ∧ MAt wr b o off ldx N C (colsN (fun _ => sol kind M N) j X)) (fun jv _ => (C - intOf jv).toNat)
  case atStart => exact ⟨0, Nat.zero_le _, rfl, WrB.refl _ _ _, by rw [colsN_none]; exact HX.out.later hB⟩
  case round =>
    obtain ⟨j, hj, rfl, hwr, hxr⟩ := hrel
    by_cases hlt : j < C
    · have q1 := hwr.keep hbm (by omega)
      have q2 := hwr.keep hbx (by omega)
      have HXR := Lib.hid hxr
      have HWR := Lib.hid hwr
      clear hxr hwr
      go_wp2
      refine wp_region_calm_tail 5 (by kernel_rfl) (by kernel_rfl) (BL wr) (fun _ _ _ => False) (BL.refl _).drew ?_
      simp only [List.take_succ_cons, List.take_zero, List.drop_succ_cons, List.drop_zero]
      repeat (first
        | (refine cmMove _ (by rfl) ?_; simp only [List.set_cons_succ, List.set_cons_zero])
        | (refine cwW (by rfl) (fun K hK w' hw => ?_); have k1 := cells_of (hw.row q1); have k2 := cells_of (hw.row q2); go_step; refine hK _ _ hw ?_; clear hK k1 k2 hw w' K))
      refine cwF (fun F hF w' hw => ?_); go_simp
      with_reducible refine calm_call (by kernel_rfl) hw (col_in _ _ _ _ _ _ _ _ _ hs' h1' hNi hCi h3' HG'.out (by omega) (by omega)) (hF _ ?_)
      clear hF hw w' F; simp only [put_lit, List.set_cons_succ, List.set_cons_zero]
      refine wpCalm_nil (fun w6 hw6 => ?_)
      go_wp2_with fail
      have hWr6 := HWR.out.trans (WrB.of_below hw6 b (MS o off ldx N C))
      have hmt2 := meet_sub HMT.out (sub_col (j := (j : Int)) (by omega) (by omega) hld) (SubSpan.refl _ _ _ _)
      have hrc := right_col (j := (j : Int)) HG'.out (by omega) (by omega)
      have hX6 := (HXR.out.col hlt).later hw6
      rw [colsN_at] at hX6
      have hM6 : MAt w6 bm om offm ld N N M := (HM.out.later hB).keepS hWr6 (fun hb p hp hp' => by
        obtain ⟨i1, j1, hi1, hj1, e1⟩ := hp
        obtain ⟨i2, j2, hi2, hj2, e2⟩ := hp'
        have hm := meet_sub HMT.out (sub_col (j := (j2 : Int)) (by omega) (by omega) hld) (SubSpan.refl _ _ _ _)
        have hs3 := sep_of_meet hsame HG.out (right_col (j := (j2 : Int)) HG'.out (by omega) (by omega)) hm i1 j1 i2 hi1 hj1 hi2 hb
        rw [show colOff off N ldx j2 = off + j2 * ldx from if_pos (by omega), Int.mul_one, show off + (j2 : Int) * ldx + (i2 : Int) = off + (i2 : Int) + (j2 : Int) * ldx by omega] at hs3
        omega)
      refine (solve12 kind hk bm om nm cm offm ld b o n c _ 1 N w6 _ M hs h1 h4 HG.out hs' (i64_col hs' h1' HG'.out (by omega) (by omega)) (by unfold I64; omega) hrc hNi hmt2 (fun h => ApartOK.wr (ApartOK.later hB (HAB.out h)) hWr6) hX6 hM6 (sep_of_meet hsame HG.out hrc hmt2) HD.out (fun k hk => ?_)).mono ?_
      · obtain ⟨v5, _, hc5, _⟩ := HX.out.col hlt k hk
        rw [hWr6.frozen (hB.cell hc5), hB.frozen hby]
        exact HF.out _ (col_places hlt ⟨k, hk, rfl⟩)
      rintro e w7 ⟨rfl, hw7, hx7⟩
      go_wp2
      go_roundw
      case rel =>
        refine ⟨j + 1, by omega, by go_num, hWr6.trans (hw7.mono fun p hp => col_places hlt hp), ?_⟩
        rw [colsN_more]
        exact (HXR.out.later hw6).put_col hoff hRl hw7 hx7
      case measure => first | (simp [intOf]; done) | (simp [intOf]; omega)
    · have hjC : j = C := by omega
      subst hjC
      have HXR := Lib.hid hxr
      have HWR := Lib.hid hwr
      clear hxr hwr
      go_wp2
      go_end0
      exact ⟨rfl, (WrB.of_below hB _ _).trans HWR.out, HXR.out⟩
end Go.Proofs.Ytapilgbbkbfcbaa
