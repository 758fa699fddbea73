/- Layer 7: what is added of each column: what the code computes. -/
import Derived.Test.YtapilgbbkbfcbaaG2
namespace Go.Proofs.Ytapilgbbkbfcbaa
open Go Go.RowKit

theorem fmul_cnr (a b : Nat) : fmul a (cn b) = fmul a b := by rw [← fmul_cn, cn_cn, fmul_cn]
theorem fadd_cnr (a b : Nat) : fadd a (cn b) = fadd a b := by rw [← fadd_cn, cn_cn, fadd_cn]
/-- To the first i numbers something is added. -/
def addN (T : Nat → Nat) (i : Nat) (Z : Nat → Nat) : Nat → Nat := fun k => if k < i then fadd (Z k) (T k) else Z k
theorem addN_none (T Z : Nat → Nat) : addN T 0 Z = Z := by funext k; simp [addN]
theorem addN_more (T : Nat → Nat) (i : Nat) (Z : Nat → Nat) : addN T (i + 1) Z = upd (addN T i Z) i (fadd (addN T i Z i) (T i)) := by
  funext k; unfold addN upd; dsimp only
  by_cases h : k = i
  · subst h; simp
  · by_cases h2 : k < i
    · rw [if_pos (by omega), if_neg h, if_pos h2]
    · rw [if_neg (by omega), if_neg h, if_neg h2]
/-- What is there when the first j columns of a matrix, times a and the vector's numbers, are added. -/
def mulJ (a R : Nat) (M : Nat → Nat → Nat) (X : Nat → Nat) : Nat → (Nat → Nat) → Nat → Nat
  | 0, Y => Y
  | j + 1, Y => addN (fun i => fmul (fmul a (X j)) (M i j)) R (mulJ a R M X j Y)

/-- No number of one vector is one of the other. -/
def XXSep (bx ox : Nat) (offx incx : Int) (C : Nat) (b o : Nat) (off inc : Int) (N : Nat) : Prop :=
  ∀ i k : Nat, i < C → k < N → bx = b → ox + (offx + (i : Int) * incx).toNat ≠ o + (off + (k : Int) * inc).toNat
theorem XAt.wr {w w1 : World} {bx ox : Nat} {offx incx : Int} {C : Nat} {X : Nat → Nat} {b o : Nat} {off inc : Int} {N : Nat} (h : XAt w bx ox offx incx C X) (hw : WrB w w1 b (XS o off inc N)) (hs : XXSep bx ox offx incx C b o off inc N) : XAt w1 bx ox offx incx C X :=
  fun i hi => let ⟨v, hv, hc, hx⟩ := h i hi; ⟨v, hv, hw.cell hc (by
    by_cases hb : bx = b
    · exact .inr fun ⟨k, hk, e⟩ => hs i k hi hk hb e
    · exact .inl hb), hx⟩

theorem vat1_calls (b o n c : Nat) (off N i : Int) (w : World) (h0 : 0 ≤ off + i) (h1 : off + i < n) (h2 : 0 ≤ i) (h3 : 0 ≤ off) (hn : (n : Int) ≤ lim) :
    Calls Try.prog 124 #[.agg #[.slice (some ⟨b, o, none⟩) n c, .int .i64 off, .int .i64 N, .int .i64 1], .int .i64 i] w
      fun e w' => e = .returned (.pointer (some ⟨b, o + (off + i).toNat, none⟩)) ∧ Below w.heap.size w w' := by
  have h := vat_calls b o n c off N 1 i w (by omega) (by omega) (by omega) h3 hn
  rw [Int.mul_one] at h
  exact h

set_option maxRecDepth 100000
set_option maxHeartbeats 4000000 in
theorem columns_calls (a : Nat) (q : Addr) (bm om bx ox b o nm cm nx cx n c : Nat) (offm ld offx incx off inc : Int) (R C : Nat) (w : World) (X Y : Nat → Nat) (M : Nat → Nat → Nat)
    (hsm : (nm : Int) ≤ lim) (m1 : I64 offm) (m2 : I64 R) (m3 : I64 C) (m4 : I64 ld) (hgm : goodP nm offm R C ld)
    (hsx : (nx : Int) ≤ lim) (hgx : rightP nx offx C incx) (hsy : (n : Int) ≤ lim) (hgy : rightP n off R inc)
    (hX : XAt w bx ox offx incx C X) (hM : MAt w bm om offm ld R C M) (hY : XAt w b o off inc R Y)
    (hsep : MXSep bm om offm ld R C b o off inc R) (hxs : XXSep bx ox offx incx C b o off inc R)
    (hf : ∀ k : Nat, k < R → w.frozen? ⟨b, o + (off + (k : Int) * inc).toNat, none⟩ = false) (hR : 0 < R)
    (hq : w.cell? q = some (.float .f64 a)) (hq0 : q.spot = none) (hqb : q.block ≠ b) :
    Calls Try.prog 100 #[.agg #[.slice (some ⟨bm, om, none⟩) nm cm, .int .i64 offm, .int .i64 R, .int .i64 C, .int .i64 ld],
        .agg #[.slice (some ⟨bx, ox, none⟩) nx cx, .int .i64 offx, .int .i64 C, .int .i64 incx], .agg #[.slice (some ⟨b, o, none⟩) n c, .int .i64 off, .int .i64 R, .int .i64 inc],
        .func (.func 101) #[] #[.pointer (some q)]] w
      fun e w' => e = .returned (.tuple #[]) ∧ WrB w w' b (XS o off inc R) ∧ XAt w' b o off inc R (mulJ a R M X C Y) := by
  have hC9 : (C : Int) ≤ 9223372036854775807 := m3.2
  have hR9 : (R : Int) ≤ 9223372036854775807 := m2.2
  have hinc : 1 ≤ inc := hgy.2.1
  have hoff : 0 ≤ off := hgy.2.2.1
  have HGM := Lib.hid hgm
  have HRX := Lib.hid hgx
  have HRY := Lib.hid hgy
  have HX := Lib.hid hX
  have HM := Lib.hid hM
  have HY := Lib.hid hY
  have HS := Lib.hid hsep
  have HXS := Lib.hid hxs
  have HF := Lib.hid hf
  have HQ := Lib.hid hq
  have hbw : b < w.heap.size := by
    obtain ⟨v0, _, hc0, _⟩ := hY 0 hR
    exact World.block_lt_of_cell? w _ hc0
  clear hgm hgx hgy hX hM hY hsep hxs hf hq
  go_enter Try.func100, Try.ntmps100
  go_wp2
  refine gen_world (fun W hW => ?_)
  have hB : BL w W := by rw [hW]; exact (((Below.refl _ _).alloc (Nat.le_refl _) _).alloc (by simp) _).alloc (by simp; omega) _
  have hbm : W.heap[w.heap.size]? = some (.cells #[.slice (some ⟨bm, om, none⟩) nm cm, .int .i64 offm, .int .i64 R, .int .i64 C, .int .i64 ld] 24 (0, 0)) := by
    rw [hW]; rw [Below.heap_alloc _ _ _ (by simp; omega), Below.heap_alloc _ _ _ (by simp)]; exact new_row _ _
  have hbx : W.heap[w.heap.size + 1]? = some (.cells #[.slice (some ⟨bx, ox, none⟩) nx cx, .int .i64 offx, .int .i64 C, .int .i64 incx] 87 (0, 0)) := by
    rw [hW]; rw [Below.heap_alloc _ _ _ (by simp)]
    have := new_row (w.alloc (.cells #[.slice (some ⟨bm, om, none⟩) nm cm, .int .i64 offm, .int .i64 R, .int .i64 C, .int .i64 ld] 24)) (.cells #[.slice (some ⟨bx, ox, none⟩) nx cx, .int .i64 offx, .int .i64 C, .int .i64 incx] 87); simpa using this
  have hby : W.heap[w.heap.size + 2]? = some (.cells #[.slice (some ⟨b, o, none⟩) n c, .int .i64 off, .int .i64 R, .int .i64 inc] 87 (0, 0)) := by
    rw [hW]
    have := new_row ((w.alloc (.cells #[.slice (some ⟨bm, om, none⟩) nm cm, .int .i64 offm, .int .i64 R, .int .i64 C, .int .i64 ld] 24)).alloc (.cells #[.slice (some ⟨bx, ox, none⟩) nx cx, .int .i64 offx, .int .i64 C, .int .i64 incx] 87)) (.cells #[.slice (some ⟨b, o, none⟩) n c, .int .i64 off, .int .i64 R, .int .i64 inc] 87); simpa using this
  clear hW
  have HXW := Lib.hid (HX.out.later hB)
  have HMW := Lib.hid (HM.out.later hB)
  have HYW := Lib.hid (HY.out.later hB)
  have HQW := Lib.hid (hB.cell HQ.out)
  go_loopw [13] (fun jv wr => ∃ j : Nat, j ≤ C ∧ jv = .int .i64 j ∧ WrB W wr b (XS o off inc R) ∧ XAt wr b o off inc R (mulJ a R M X j Y)) (fun jv _ => (C - intOf jv).toNat)
  case atStart => exact ⟨0, Nat.zero_le _, rfl, WrB.refl _ _ _, HYW.out⟩
  case round =>
    obtain ⟨j, hj, rfl, hwr, hxr⟩ := hrel
    by_cases hlt : j < C
    · have k1 := cells_of (hwr.keep hbm (by omega))
      have HXR := Lib.hid hxr
      have HWR := Lib.hid hwr
      clear hxr hwr
      go_wp2_with fail
      refine (col_in _ _ _ _ _ _ _ _ _ hsm m1 m2 m3 m4 HGM.out (by omega) (by omega)).mono ?_
      rintro e w1 ⟨rfl, hb1⟩
      rw [show colOff offm R ld j = offm + j * ld from if_pos (by omega)]
      have hB1 : BL wr w1 := hb1
      clear k1
      have k2 := cells_of (hB1.row (HWR.out.keep hbx (by omega)))
      have k3 := cells_of (hB1.row (HWR.out.keep hby (by omega)))
      have hz2 : w.heap.size + 2 < w1.heap.size := (Array.getElem?_eq_some_iff.1 (hB1.row (HWR.out.keep hby (by omega)))).1
      have hz3 : wr.heap.size ≤ w1.heap.size := hB1.size
      have hz1 : w.heap.size + 1 < w1.heap.size := by omega
      have hz0 : w.heap.size < w1.heap.size := by omega
      go_wp2
      refine gen_world (fun W2 hW2 => ?_)
      obtain ⟨g, hg0⟩ : ∃ g, g = w1.heap.size := ⟨_, rfl⟩
      rw [← hg0]
      have hB2 : BL wr W2 := by rw [hW2]; repeat (first | exact hB1 | refine BL.drewN ?_ _ | refine Below.setCell ?_ (by first | omega | (simp; done) | (simp; omega)) _ | refine Below.alloc ?_ (by first | omega | (simp; done) | (simp; omega)) _)
      have hbc : W2.heap[g]? = some (.cells #[.slice (some ⟨bm, om, none⟩) nm cm, .int .i64 (offm + j * ld), .int .i64 R, .int .i64 1] 87 (0, 0)) := by
        rw [hW2, hg0]; first | exact new_row _ _ | simpa using new_row _ _
      have hgw : w.heap.size + 2 < g := by omega
      clear hW2 hg0 hz0 hz1 hz2 hz3 k2 k3 hb1 hB1
      have HXR2 := Lib.hid (HXR.out.later hB2)
      have HWR2 := Lib.hid (HWR.out.trans (WrB.of_below hB2 _ _))
      clear HXR HWR
      go_loopw [21] (fun iv wr => ∃ i : Nat, i ≤ R ∧ iv = .int .i64 i ∧ WrB W2 wr b (XS o off inc R) ∧ XAt wr b o off inc R (addN (fun i => fmul (fmul a (X j)) (M i j)) i (mulJ a R M X j Y))) (fun iv _ => (R - intOf iv).toNat)
      case atStart => exact ⟨0, Nat.zero_le _, rfl, WrB.refl _ _ _, by rw [addN_none]; exact HXR2.out⟩
      case round =>
        obtain ⟨i, hi, rfl, hwq, hxq⟩ := hrel
        by_cases hlt2 : i < R
        · have hWq := HWR2.out.trans hwq
          obtain ⟨vm, hvm, hcm, hvm2⟩ := (HMW.out.wr hWq HS.out) i j hlt2 hlt
          obtain ⟨vi, hvi, hci, hvi2⟩ := hxq i hlt2
          obtain ⟨vx, hvx, hcx, hvx2⟩ := (HXW.out.wr hWq HXS.out) j hlt
          obtain ⟨v5, _, hc5, _⟩ := HY.out i hlt2
          have hfz : wr.frozen? ⟨b, o + (off + (i : Int) * inc).toNat, none⟩ = false := by
            rw [hWq.frozen (hB.cell hc5), hB.frozen hbw]; exact HF.out i hlt2
          obtain ⟨q1, q2, q3, q4⟩ := good_at (i := i) (j := j) HGM.out (by omega) (by omega) (by omega) (by omega)
          obtain ⟨r1, r2, r3, r4⟩ := right_at (i := i) HRY.out (by omega) (by omega)
          obtain ⟨s1, s2, s3, s4⟩ := right_at (i := j) HRX.out (by omega) (by omega)
          have hcm' : wr.cell? ⟨bm, om + (offm + (j : Int) * ld + (i : Int)).toNat, none⟩ = some (.float .f64 vm) := by rw [show offm + (j : Int) * ld + (i : Int) = offm + (i : Int) + (j : Int) * ld by omega]; exact hcm
          have hb1' := hWq.keep hbx (by omega)
          have hb2' := hWq.keep hby (by omega)
          have hb3' := hwq.keep hbc (by omega)
          have hqq : wr.cell? q = some (.float .f64 a) := by
            obtain ⟨qb, qo, qs⟩ := q
            simp only at hq0 hqb
            subst hq0
            exact hWq.cell HQW.out (.inl hqb)
          have HV := Lib.hid hvi2
          have HVM := Lib.hid hvm2
          have HVX := Lib.hid hvx2
          have HXQ := Lib.hid hxq
          have HWQ := Lib.hid hwq
          have HQQ := Lib.hid hqq
          clear hvi2 hvm2 hvx2 hxq hwq hqq hc5 hcm
          go_wp2
          refine wp_region_calm_tail 18 (by kernel_rfl) (by kernel_rfl) (BL wr) (fun _ _ u => ∃ r, u = .float .f64 r ∧ r < 18446744073709551616 ∧ cn r = fmul (fmul a vx) vm) (BL.refl _).drew ?_
          simp only [List.take_succ_cons, List.take_zero, List.drop_succ_cons, List.drop_zero]
          repeat (first
            | (refine cmMove _ (by rfl) ?_; simp only [List.set_cons_succ, List.set_cons_zero])
            | (refine cmNil _ (by rfl) ?_; simp only [List.set_cons_succ, List.set_cons_zero])
            | (refine cmFadd _ _ (by rfl) (by rfl) (fun _ n h => h.drewN n) (fun r hr hcr => ?_); simp only [List.set_cons_succ, List.set_cons_zero])
            | (refine cwW (by rfl) (fun K hK w' hw => ?_); have k1 := cells_of (hw.row hb1'); have k2 := cells_of (hw.row hb2'); have k3 := cells_of (hw.row hb3'); have k4 := hw.cell hci; have k5 := hw.cell hcx; have k6 := hw.cell hcm'; go_step; refine hK _ _ hw ?_; clear hK k1 k2 k3 k4 k5 k6 hw w' K))
          refine cwF (fun F hF w' hw => ?_); go_simp
          with_reducible refine calm_call (by kernel_rfl) hw (vat_calls _ _ _ _ _ _ _ _ _ (by omega) r3 r1 r2 hsy) (hF _ ?_)
          clear hF hw w' F; simp only [put_lit, List.set_cons_succ, List.set_cons_zero]
          repeat (first
            | (refine cmMove _ (by rfl) ?_; simp only [List.set_cons_succ, List.set_cons_zero])
            | (refine cmNil _ (by rfl) ?_; simp only [List.set_cons_succ, List.set_cons_zero])
            | (refine cmFadd _ _ (by rfl) (by rfl) (fun _ n h => h.drewN n) (fun r hr hcr => ?_); simp only [List.set_cons_succ, List.set_cons_zero])
            | (refine cwW (by rfl) (fun K hK w' hw => ?_); have k1 := cells_of (hw.row hb1'); have k2 := cells_of (hw.row hb2'); have k3 := cells_of (hw.row hb3'); have k4 := hw.cell hci; have k5 := hw.cell hcx; have k6 := hw.cell hcm'; go_step; refine hK _ _ hw ?_; clear hK k1 k2 k3 k4 k5 k6 hw w' K))
          refine cwF (fun F hF w' hw => ?_); go_simp
          with_reducible refine calm_call (by kernel_rfl) hw (vat1_calls _ _ _ _ _ _ _ _ (by omega) (by omega) (by omega) (by omega) hsm) (hF _ ?_)
          clear hF hw w' F; simp only [put_lit, List.set_cons_succ, List.set_cons_zero]
          repeat (first
            | (refine cmMove _ (by rfl) ?_; simp only [List.set_cons_succ, List.set_cons_zero])
            | (refine cmNil _ (by rfl) ?_; simp only [List.set_cons_succ, List.set_cons_zero])
            | (refine cmFadd _ _ (by rfl) (by rfl) (fun _ n h => h.drewN n) (fun r hr hcr => ?_); simp only [List.set_cons_succ, List.set_cons_zero])
            | (refine cwW (by rfl) (fun K hK w' hw => ?_); have k1 := cells_of (hw.row hb1'); have k2 := cells_of (hw.row hb2'); have k3 := cells_of (hw.row hb3'); have k4 := hw.cell hci; have k5 := hw.cell hcx; have k6 := hw.cell hcm'; go_step; refine hK _ _ hw ?_; clear hK k1 k2 k3 k4 k5 k6 hw w' K))
          refine cwF (fun F hF w' hw => ?_); go_simp
          with_reducible refine calm_call (by kernel_rfl) hw (vat_calls _ _ _ _ _ _ _ _ _ (by omega) s3 s1 s2 hsx) (hF _ ?_)
          clear hF hw w' F; simp only [put_lit, List.set_cons_succ, List.set_cons_zero]
          repeat (first
            | (refine cmMove _ (by rfl) ?_; simp only [List.set_cons_succ, List.set_cons_zero])
            | (refine cmNil _ (by rfl) ?_; simp only [List.set_cons_succ, List.set_cons_zero])
            | (refine cmFadd _ _ (by rfl) (by rfl) (fun _ n h => h.drewN n) (fun r hr hcr => ?_); simp only [List.set_cons_succ, List.set_cons_zero])
            | (refine cwW (by rfl) (fun K hK w' hw => ?_); have k1 := cells_of (hw.row hb1'); have k2 := cells_of (hw.row hb2'); have k3 := cells_of (hw.row hb3'); have k4 := hw.cell hci; have k5 := hw.cell hcx; have k6 := hw.cell hcm'; go_step; refine hK _ _ hw ?_; clear hK k1 k2 k3 k4 k5 k6 hw w' K))
          refine cwF (fun F hF w' hw => ?_); go_simp
          with_reducible refine calm_callS (by kernel_rfl) hw (of_calls _ _ _ _ _ (hw.cell HQQ.out) hq0) (fun u ⟨r0, hu, hr0, hcr0⟩ => ?_)
          subst hu; refine hF _ ?_; clear hF hw w' F; simp only [put_lit, List.set_cons_succ, List.set_cons_zero]
          repeat (first
            | (refine cmMove _ (by rfl) ?_; simp only [List.set_cons_succ, List.set_cons_zero])
            | (refine cmNil _ (by rfl) ?_; simp only [List.set_cons_succ, List.set_cons_zero])
            | (refine cmFadd _ _ (by rfl) (by rfl) (fun _ n h => h.drewN n) (fun r hr hcr => ?_); simp only [List.set_cons_succ, List.set_cons_zero])
            | (refine cwW (by rfl) (fun K hK w' hw => ?_); have k1 := cells_of (hw.row hb1'); have k2 := cells_of (hw.row hb2'); have k3 := cells_of (hw.row hb3'); have k4 := hw.cell hci; have k5 := hw.cell hcx; have k6 := hw.cell hcm'; go_step; refine hK _ _ hw ?_; clear hK k1 k2 k3 k4 k5 k6 hw w' K))
          refine wpCalm_nil (fun w6 hw6 => ?_)
          have hci6 := hw6.cell hci
          have hfz6 : w6.frozen? ⟨b, o + (off + (i : Int) * inc).toNat, none⟩ = false := by rw [hw6.frozen (World.block_lt_of_cell? _ _ hci)]; exact hfz
          go_wp2
          go_roundw
          case rel =>
            refine ⟨i + 1, by omega, by go_num, ?_, ?_⟩
            · exact HWQ.out.trans ((WrB.of_below hw6 _ _).trans (WrB.set _ _ _ _ ⟨i, hlt2, rfl⟩ _))
            · have hx := HXQ.out.put hw6 hoff hinc i _ hlt2 hr
              rw [hcr] at hx
              have e : fadd (addN (fun i => fmul (fmul a (X j)) (M i j)) i (mulJ a R M X j Y) i) (fmul (fmul a (X j)) (M i j)) = fadd vi r0 := by rw [← HV.out, ← HVM.out, ← HVX.out, fmul_cnr a vx, fmul_cnr, ← hcr0, fadd_cn]
              rw [addN_more, e]
              exact hx
          case measure => first | (simp [intOf]; done) | (simp [intOf]; omega)
        · have hiR : i = R := by omega
          subst hiR
          have HXQ := Lib.hid hxq
          have HWQ := Lib.hid hwq
          clear hxq hwq
          go_wp2
          go_roundw
          case rel => exact ⟨j + 1, by omega, by go_num, HWR2.out.trans HWQ.out, HXQ.out⟩
          case measure => first | (simp [intOf]; done) | (simp [intOf]; omega)
    · have hjC : j = C := by omega
      subst hjC
      have HXR := Lib.hid hxr
      have HWR := Lib.hid hwr
      clear hxr hwr
      go_wp2
      go_end0
      exact ⟨rfl, (WrB.of_below hB _ _).trans HWR.out, HXR.out⟩
end Go.Proofs.Ytapilgbbkbfcbaa
