/- Layer 9: solving a lower triangular system: what the code computes. -/
import Derived.Test.YtapilgbbkbfcbaaM1
namespace Go.Proofs.Ytapilgbbkbfcbaa
open Go Go.RowKit
theorem fsub_cn' (a b : Nat) : fsub (cn a) b = fsub a b := by rw [← fsub_cn, cn_cn, fsub_cn]
theorem row_good {n off N inc : Int} (h : rightP n off N inc) : goodP n off 1 N inc := by
  obtain ⟨h1, h2, h3, h4⟩ := h
  refine ⟨by omega, h1, h3, h2, h2, ?_⟩
  rcases h4 with h4 | h4
  · exact .inr (.inl h4)
  · exact .inr (.inr (by simpa using h4))
theorem gen_call {P : Program} {f : FuncId} {args : Array Value} {w : World} {R : Ending → World → Prop} (h : ∀ W, W = w → Calls P f args W R) : Calls P f args w R := h w rfl
set_option maxRecDepth 100000
set_option maxHeartbeats 2000000 in
theorem solve1 (bm om nm cm : Nat) (offm ld : Int) (b o n c : Nat) (off inc : Int) (N : Nat) (w : World) (X : Nat → Nat) (M : Nat → Nat → Nat)
    (hs : (nm : Int) ≤ lim) (h1 : I64 offm) (h4 : I64 ld) (hg : goodP nm offm N N ld)
    (hs' : (n : Int) ≤ lim) (h1' : I64 off) (h3' : I64 inc) (hg' : rightP n off N inc) (hNi : I64 N)
    (hmt : ¬ meetP (some ⟨b, o, none⟩) off 1 N inc (some ⟨bm, om, none⟩) offm N N ld) (hab : (⟨b, o, none⟩ : Addr) ≠ ⟨bm, om, none⟩ → ApartOK w ⟨b, o, none⟩ ⟨bm, om, none⟩)
    (hX : XAt w b o off inc N X) (hM : MAt w bm om offm ld N N M) (hsep : MXSep bm om offm ld N N b o off inc N)
    (hf : ∀ k : Nat, k < N → w.frozen? ⟨b, o + (off + (k : Int) * inc).toNat, none⟩ = false) :
    Calls Try.prog 62 #[.int .i64 1, .agg #[.slice (some ⟨bm, om, none⟩) nm cm, .int .i64 offm, .int .i64 N, .int .i64 N, .int .i64 ld], .agg #[.slice (some ⟨b, o, none⟩) n c, .int .i64 off, .int .i64 N, .int .i64 inc]] w
      fun e w' => e = .returned (.int .i64 0) ∧ WrB w w' b (XS o off inc N) ∧ XAt w' b o off inc N (lowN M N N X) := by
  have HR := Lib.hid (decide_eq_true hg')
  have HM := Lib.hid (decide_eq_false hmt)
  have HG := Lib.hid hg
  have HG' := Lib.hid hg'
  clear hmt hg hg'
  go_enter Try.func62, Try.ntmps62
  go_wp2_with fail
  refine gen_call (fun W0 hW0 => ?_)
  have hB0 : BL w W0 := by rw [hW0]; exact ((Below.refl _ _).alloc (Nat.le_refl _) _).alloc (by simp) _
  have hbm : W0.heap[w.heap.size]? = some (.cells #[.slice (some ⟨bm, om, none⟩) nm cm, .int .i64 offm, .int .i64 N, .int .i64 N, .int .i64 ld] 24 (0, 0)) := by rw [hW0]; exact (Below.heap_alloc _ _ _ (by simp)).trans (new_row _ _)
  have hbv : W0.heap[w.heap.size + 1]? = some (.cells #[.slice (some ⟨b, o, none⟩) n c, .int .i64 off, .int .i64 N, .int .i64 inc] 87 (0, 0)) := by
    rw [hW0]; have := new_row (w.alloc (.cells #[.slice (some ⟨bm, om, none⟩) nm cm, .int .i64 offm, .int .i64 N, .int .i64 N, .int .i64 ld] 24)) (.cells #[.slice (some ⟨b, o, none⟩) n c, .int .i64 off, .int .i64 N, .int .i64 inc] 87); simpa using this
  clear hW0
  refine (right_calls _ _ _ _ _ _ _ hs' h1' hNi h3').mono ?_
  rintro e w1 ⟨rfl, hb1⟩
  rw [HR.out]
  have kbm := cells_of ((show BL W0 w1 from hb1).row hbm)
  have kbv := cells_of ((show BL W0 w1 from hb1).row hbv)
  go_wp2_with fail
  refine (trsv_square _ _ _ _ _ _ _ _ _ _ hs h1 hNi hNi h4 HG.out (by omega) (by omega) rfl rfl).mono ?_
  rintro e w2 ⟨rfl, hb2⟩
  clear kbm kbv
  have hB2 : BL W0 w2 := (show BL W0 w1 from hb1).call hb2
  have kbm := cells_of (hB2.row hbm)
  have kbv := cells_of (hB2.row hbv)
  go_wp2
  refine wp_region_calm (by kernel_rfl) (by kernel_rfl) (BL w2) (fun _ _ _ => False) (BL.refl _).drew ?_
  repeat (first
    | (refine cmMove _ (by rfl) ?_; simp only [List.set_cons_succ, List.set_cons_zero])
    | (refine cmAssign _ (by rfl) ?_; simp only [List.set_cons_succ, List.set_cons_zero])
    | (refine cwW (by rfl) (fun K hK w' hw => ?_); have k1 := cells_of ((hB2.call hw).row hbm); have k2 := cells_of ((hB2.call hw).row hbv); go_step; refine hK _ _ hw ?_; clear hK k1 k2 hw w' K)
    | (refine cwF (fun F hF w' hw => ?_); go_simp
       first
         | (refine calm_call (by kernel_rfl) hw (trsv_row _ _ _ _ _ _ _) (hF _ ?_); clear hF hw w' F; simp only [put_lit, List.set_cons_succ, List.set_cons_zero])
         | (refine calm_call (by kernel_rfl) hw (meet_any _ _ _ _ _ _ _ _ _ _ _ _ _ _ _ hs' h1' (by unfold I64; omega) hNi h3' (row_good HG'.out) hs h1 hNi hNi h4 HG.out (fun _ => ⟨_, rfl⟩) (fun _ => ⟨_, rfl⟩) (fun a a' ha ha' hne => by cases ha; cases ha'; exact (hab hne).later (BL.call (BL.call hB0 hB2) hw))) (hF _ ?_); rw [HM.out]; clear hF hw w' F; simp only [put_lit, List.set_cons_succ, List.set_cons_zero])))
  refine wpCalm_nil (fun w3 hw3 => ?_)
  clear kbm kbv
  have hB3 : BL W0 w3 := hB2.call hw3
  have kbm := cells_of (hB3.row hbm)
  have kbv := cells_of (hB3.row hbv)
  go_wp2_with fail
  refine (zero_lower _ _ _ _ _ _ _ _ _ (by omega) hNi (by decide) (by decide)).mono ?_
  rintro e w4 ⟨rfl, hb4⟩
  clear kbm kbv
  have hB4 : BL W0 w4 := hB3.call hb4
  have kbm := cells_of (hB4.row hbm)
  have kbv := cells_of (hB4.row hbv)
  have hz1 : w.heap.size + 1 < w4.heap.size := by have e1 := (Array.getElem?_eq_some_iff.1 hbv).1; have e2 := hB4.size; omega
  have hz0 : w.heap.size < w4.heap.size := by omega
  go_wp2
  go_region
  clear kbm kbv
  go_wp2
  refine gen_world (fun w5 hW5 => ?_)
  obtain ⟨g, hg0⟩ : ∃ g, g = w4.heap.size := ⟨_, rfl⟩
  rw [← hg0]
  have hB5 : BL w4 w5 := by rw [hW5]; repeat (first | exact BL.refl _ | exact Below.refl _ _ | refine BL.drew ?_ | refine BL.drewN ?_ _ | refine Below.alloc ?_ (by first | (simp; done) | (simp; omega)) _)
  have hbs : w5.heap[g]? = some (.cells #[.slice (some ⟨bm, om, none⟩) nm cm, .int .i64 offm, .int .i64 N, .int .i64 N, .int .i64 ld, .slice (some ⟨b, o, none⟩) n c, .int .i64 off, .int .i64 N, .int .i64 inc] 143 (0, 0)) := by
    rw [hW5, hg0]; first | exact new_row _ _ | simpa using new_row _ _
  have hgw : w.heap.size < g := by omega
  clear hW5 hg0
  have hBw : BL w w5 := BL.call (BL.call hB0 hB4) hB5
  clear hb1 hb2 hb4 hB2 hw3 hB3 hB4 hB5 hz1 hz0
  have hX5 := hX.later hBw
  have hM5 := hM.later hBw
  have HX := Lib.hid hX5
  have HM5 := Lib.hid hM5
  have HS := Lib.hid hsep
  have HF := Lib.hid hf
  have HX0 := Lib.hid hX
  clear hX hX5 hM hM5 hsep hf hab
  have hinc : 1 ≤ inc := HG'.out.2.1
  have hoff : 0 ≤ off := HG'.out.2.2.1
  have hN9 : (N : Int) ≤ 9223372036854775807 := hNi.2
  go_loopw [47] (fun jv wr => ∃ j : Nat, j ≤ N ∧ jv = .int .i64 j ∧ WrB w5 wr b (XS o off inc N) ∧ XAt wr b o off inc N (lowN M N j X)) (fun jv _ => (N - intOf jv).toNat)
  case atStart => exact ⟨0, Nat.zero_le _, rfl, WrB.refl _ _ _, HX.out⟩
  case round =>
    obtain ⟨j, hj, rfl, hwr, hxr⟩ := hrel
    by_cases hlt : j < N
    · obtain ⟨wo, hwo⟩ : ∃ wo : World, wo = wr := ⟨_, rfl⟩
      rw [← hwo] at hwr hxr ⊢
      clear hwo wr
      have HXR := Lib.hid hxr
      have HWR := Lib.hid hwr
      clear hxr hwr
      go_wp2
      go_loopw [11] (fun iv wr => ∃ i : Nat, j + 1 ≤ i ∧ i ≤ N ∧ iv = .int .i64 i ∧ WrB w5 wr b (XS o off inc N) ∧ XAt wr b o off inc N (elim M j (j + 1) i (lowN M N j X))) (fun iv _ => (N - intOf iv).toNat)
      case atStart => exact ⟨j + 1, Nat.le_refl _, by omega, by go_num, HWR.out, by rw [elim_none]; exact HXR.out⟩
      case round =>
        obtain ⟨i, hi0, hi, rfl, hwr, hxr⟩ := hrel
        by_cases hlt2 : i < N
        · obtain ⟨vm, hvm, hcm, hvm2⟩ := (HM5.out.wr hwr HS.out) i j hlt2 hlt
          obtain ⟨vi, hvi, hci, hvi2⟩ := hxr i hlt2
          obtain ⟨vj, hvj, hcj, hvj2⟩ := hxr j hlt
          obtain ⟨v0, _, hc0, _⟩ := HX0.out i hlt2
          have hbw : b < w.heap.size := World.block_lt_of_cell? w _ hc0
          have hbs' := hwr.keep hbs (by omega)
          have hfz : wr.frozen? ⟨b, o + (off + (i : Int) * inc).toNat, none⟩ = false := by
            obtain ⟨v5, _, hc5, _⟩ := HX.out i hlt2
            rw [hwr.frozen hc5, hBw.frozen hbw]; exact HF.out i hlt2
          obtain ⟨q1, q2, q3, q4⟩ := good_at (i := i) (j := j) HG.out (by omega) (by omega) (by omega) (by omega)
          obtain ⟨r1, r2, r3, r4⟩ := right_at (i := i) HG'.out (by omega) (by omega)
          obtain ⟨s1, s2, s3, s4⟩ := right_at (i := j) HG'.out (by omega) (by omega)
          have HV2 := Lib.hid hvi2
          have HV3 := Lib.hid hvj2
          have HV4 := Lib.hid hvm2
          have HXR2 := Lib.hid hxr
          have HWR2 := Lib.hid hwr
          clear hvi2 hvj2 hvm2 hxr hwr hc0
          go_wp2
          refine wp_region_calm_tail 7 (by kernel_rfl) (by kernel_rfl) (BL wr) (fun _ _ _ => False) (BL.refl _).drew ?_
          simp only [List.take_succ_cons, List.take_zero, List.drop_succ_cons, List.drop_zero]
          repeat (first
            | (refine cmMove _ (by rfl) ?_; simp only [List.set_cons_succ, List.set_cons_zero])
            | (refine cwW (by rfl) (fun K hK w' hw => ?_); have k1 := cells_of (hw.row hbs'); go_step; refine hK _ _ hw ?_; clear hK k1 hw w' K)
            | (refine cwF (fun F hF w' hw => ?_); go_simp
               refine calm_call (by kernel_rfl) hw (sysat_calls _ _ _ _ _ _ _ _ _ _ _ _ _ _ _ _ hs (by omega) q3 q1 q2 (by omega) (hw.cell hcm)) (hF _ ?_); clear hF hw w' F; simp only [put_lit, List.set_cons_succ, List.set_cons_zero]))
          refine wpCalm_nil (fun w6 hw6 => ?_)
          have hci6 := hw6.cell hci
          have hcj6 := hw6.cell hcj
          have hfz6 : w6.frozen? ⟨b, o + (off + (i : Int) * inc).toNat, none⟩ = false := by rw [hw6.frozen (World.block_lt_of_cell? _ _ hci)]; exact hfz
          go_wp2_with (go_at_call 95; refine (less_calls _ _ _ _ _ _ _ _ _ _ _ _ _ _ _ _ _ _ hs' hoff (by omega) r3 r1 (by omega) s3 s1 hci6 hcj6 hfz6).mono ?_; rintro e w8 ⟨rfl, r, w7, hb7, rfl, hr, hcr⟩)
          have HC := Lib.hid hcr
          clear hcr
          go_wp2
          go_roundw
          case rel =>
            refine ⟨i + 1, by omega, by omega, by go_num, ?_, ?_⟩
            · exact HWR2.out.trans ((WrB.of_below (hw6.call hb7) _ _).trans (WrB.set _ _ _ _ ⟨i, hlt2, rfl⟩ _))
            · have hx := HXR2.out.put (hw6.call hb7) hoff hinc i r hlt2 hr
              rw [elim_more _ _ _ _ _ hi0 (by omega), ← HV2.out, ← HV3.out, ← HV4.out, fmul_cn, fsub_cn']
              rw [HC.out] at hx
              exact hx
          case measure => simp [intOf]; omega
        · have hiN : i = N := by omega
          subst hiN
          have HXR2 := Lib.hid hxr
          have HWR2 := Lib.hid hwr
          clear hxr hwr
          go_wp2
          go_roundw
          case rel => exact ⟨j + 1, by omega, by go_num, HWR2.out, HXR2.out⟩
          case measure => simp [intOf]; omega
    · have hjN : j = N := by omega
      subst hjN
      have HXR := Lib.hid hxr
      have HWR := Lib.hid hwr
      clear hxr hwr
      go_wp2
      go_ret
      exact ⟨rfl, (WrB.of_below hBw _ _).trans HWR.out, HXR.out⟩
end Go.Proofs.Ytapilgbbkbfcbaa
