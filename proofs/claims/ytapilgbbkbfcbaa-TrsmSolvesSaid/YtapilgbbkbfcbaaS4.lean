/- Layer 9: solving a triangular system of kind 2: what the code computes. -/
import Derived.Test.YtapilgbbkbfcbaaS3
namespace Go.Proofs.Ytapilgbbkbfcbaa
open Go Go.RowKit
set_option maxRecDepth 100000
set_option maxHeartbeats 2000000 in
theorem solve2 (bm om nm cm : Nat) (offm ld : Int) (b o n c : Nat) (off inc : Int) (N : Nat) (w : World) (X : Nat → Nat) (M : Nat → Nat → Nat)
    (hs : (nm : Int) ≤ lim) (h1 : I64 offm) (h4 : I64 ld) (hg : goodP nm offm N N ld)
    (hs' : (n : Int) ≤ lim) (h1' : I64 off) (h3' : I64 inc) (hg' : rightP n off N inc) (hNi : I64 N)
    (hmt : ¬ meetP (some ⟨b, o, none⟩) off 1 N inc (some ⟨bm, om, none⟩) offm N N ld) (hab : (⟨b, o, none⟩ : Addr) ≠ ⟨bm, om, none⟩ → ApartOK w ⟨b, o, none⟩ ⟨bm, om, none⟩)
    (hX : XAt w b o off inc N X) (hM : MAt w bm om offm ld N N M) (hsep : MXSep bm om offm ld N N b o off inc N)
    (hdg : DiagOK w bm om offm N ld)
    (hf : ∀ k : Nat, k < N → w.frozen? ⟨b, o + (off + (k : Int) * inc).toNat, none⟩ = false) :
    Calls Try.prog 62 #[.int .i64 2, .agg #[.slice (some ⟨bm, om, none⟩) nm cm, .int .i64 offm, .int .i64 N, .int .i64 N, .int .i64 ld], .agg #[.slice (some ⟨b, o, none⟩) n c, .int .i64 off, .int .i64 N, .int .i64 inc]] w
      fun e w' => e = .returned (.int .i64 0) ∧ WrB w w' b (XS o off inc N) ∧ XAt w' b o off inc N (upN M N N X) := by
  have HR := Lib.hid (decide_eq_true hg')
  have HM := Lib.hid (decide_eq_false hmt)
  have HG := Lib.hid hg
  have HG' := Lib.hid hg'
  have hN9 : (N : Int) ≤ 9223372036854775807 := hNi.2
  clear hmt hg hg'
  go_enter Try.func62, Try.ntmps62
  go_wp2_with fail
  refine gen_call (fun W0 hW0 => ?_)
  have hB0 : BL w W0 := by rw [hW0]; exact ((Below.refl _ _).alloc (Nat.le_refl _) _).alloc (by simp) _
  have hbm : W0.heap[w.heap.size]? = some (.cells #[.slice (some ⟨bm, om, none⟩) nm cm, .int .i64 offm, .int .i64 N, .int .i64 N, .int .i64 ld] 24 (0, 0)) := by rw [hW0]; exact (Below.heap_alloc _ _ _ (by simp)).trans (new_row _ _)
  have hbv : W0.heap[w.heap.size + 1]? = some (.cells #[.slice (some ⟨b, o, none⟩) n c, .int .i64 off, .int .i64 N, .int .i64 inc] 87 (0, 0)) := by
    rw [hW0]; have := new_row (w.alloc (.cells #[.slice (some ⟨bm, om, none⟩) nm cm, .int .i64 offm, .int .i64 N, .int .i64 N, .int .i64 ld] 24)) (.cells #[.slice (some ⟨b, o, none⟩) n c, .int .i64 off, .int .i64 N, .int .i64 inc] 87); simpa using this
  clear hW0
  refine (right_calls _ _ _ _ _ _ _ hs' h1' hNi h3').mono ?_
  rintro e w1 ⟨rfl, hb1⟩
  rw [HR.out]
  have kbm := cells_of ((show BL W0 w1 from hb1).row hbm)
  have kbv := cells_of ((show BL W0 w1 from hb1).row hbv)
  go_wp2_with fail
  refine (trsv_square _ _ _ _ _ _ _ _ _ _ hs h1 hNi hNi h4 HG.out (by omega) (by omega) rfl rfl).mono ?_
  rintro e w2 ⟨rfl, hb2⟩
  clear kbm kbv
  have hB2 : BL W0 w2 := (show BL W0 w1 from hb1).call hb2
  have kbm := cells_of (hB2.row hbm)
  have kbv := cells_of (hB2.row hbv)
  go_wp2
  refine wp_region_calm (by kernel_rfl) (by kernel_rfl) (BL w2) (fun _ _ _ => False) (BL.refl _).drew ?_
  repeat (first
    | (refine cmMove _ (by rfl) ?_; simp only [List.set_cons_succ, List.set_cons_zero])
    | (refine cmAssign _ (by rfl) ?_; simp only [List.set_cons_succ, List.set_cons_zero])
    | (refine cwW (by rfl) (fun K hK w' hw => ?_); have k1 := cells_of ((hB2.call hw).row hbm); have k2 := cells_of ((hB2.call hw).row hbv); go_step; refine hK _ _ hw ?_; clear hK k1 k2 hw w' K)
    | (refine cwF (fun F hF w' hw => ?_); go_simp
       first
         | (refine calm_call (by kernel_rfl) hw (trsv_row _ _ _ _ _ _ _) (hF _ ?_); clear hF hw w' F; simp only [put_lit, List.set_cons_succ, List.set_cons_zero])
         | (refine calm_call (by kernel_rfl) hw (meet_any _ _ _ _ _ _ _ _ _ _ _ _ _ _ _ hs' h1' (by unfold I64; omega) hNi h3' (row_good HG'.out) hs h1 hNi hNi h4 HG.out (fun _ => ⟨_, rfl⟩) (fun _ => ⟨_, rfl⟩) (fun a a' ha ha' hne => by cases ha; cases ha'; exact (hab hne).later (BL.call (BL.call hB0 hB2) hw))) (hF _ ?_); rw [HM.out]; clear hF hw w' F; simp only [put_lit, List.set_cons_succ, List.set_cons_zero])))
  refine wpCalm_nil (fun w3 hw3 => ?_)
  clear kbm kbv
  have hB3 : BL W0 w3 := hB2.call hw3
  have kbm := cells_of (hB3.row hbm)
  have kbv := cells_of (hB3.row hbv)
  go_wp2_with fail
  refine (zero_upper _ _ _ _ _ _ _ _ _ _ hs h1 hNi hNi h4 HG.out (Int.le_refl _) (by decide) (fun k hk => let ⟨v, h1, h2⟩ := hdg k hk; ⟨v, (BL.call hB0 hB3).cell h1, h2⟩)).mono ?_
  rintro e w4 ⟨rfl, hb4⟩
  clear kbm kbv
  have hB4 : BL W0 w4 := hB3.call hb4
  have kbm := cells_of (hB4.row hbm)
  have kbv := cells_of (hB4.row hbv)
  have hz1 : w.heap.size + 1 < w4.heap.size := by have e1 := (Array.getElem?_eq_some_iff.1 hbv).1; have e2 := hB4.size; omega
  have hz0 : w.heap.size < w4.heap.size := by omega
  go_wp2
  go_region
  clear kbm kbv
  go_wp2
  refine gen_world (fun w5 hW5 => ?_)
  obtain ⟨g, hg0⟩ : ∃ g, g = w4.heap.size := ⟨_, rfl⟩
  rw [← hg0]
  have hB5 : BL w4 w5 := by rw [hW5]; repeat (first | exact BL.refl _ | exact Below.refl _ _ | refine BL.drew ?_ | refine BL.drewN ?_ _ | refine Below.alloc ?_ (by first | (simp; done) | (simp; omega)) _)
  have hbs : w5.heap[g]? = some (.cells #[.slice (some ⟨bm, om, none⟩) nm cm, .int .i64 offm, .int .i64 N, .int .i64 N, .int .i64 ld, .slice (some ⟨b, o, none⟩) n c, .int .i64 off, .int .i64 N, .int .i64 inc] 143 (0, 0)) := by
    rw [hW5, hg0]; first | exact new_row _ _ | simpa using new_row _ _
  have hgw : w.heap.size < g := by omega
  clear hW5 hg0
  have hBw : BL w w5 := BL.call (BL.call hB0 hB4) hB5
  clear hb1 hb2 hb4 hB2 hw3 hB3 hB4 hB5 hz1 hz0
  have hX5 := hX.later hBw
  have hM5 := hM.later hBw
  have HX := Lib.hid hX5
  have HM5 := Lib.hid hM5
  have HS := Lib.hid hsep
  have HF := Lib.hid hf
  have HX0 := Lib.hid hX
  clear hX hX5 hM hM5 hsep hf hab
  have hinc : 1 ≤ inc := HG'.out.2.1
  have hoff : 0 ≤ off := HG'.out.2.2.1
  have hN9 : (N : Int) ≤ 9223372036854775807 := hNi.2
  go_loopw [12] (fun jv wr => ∃ t : Nat, t ≤ N ∧ jv = .int .i64 ((N : Int) - (t : Int) - 1) ∧ WrB w5 wr b (XS o off inc N) ∧ XAt wr b o off inc N (upN M N t X)) (fun jv _ => (intOf jv + 1).toNat)
  case atStart => exact ⟨0, Nat.zero_le _, congrArg (Value.int .i64) (by omega), WrB.refl _ _ _, HX.out⟩
  case round =>
    obtain ⟨t, ht, rfl, hwr, hxr⟩ := hrel
    by_cases hlt : t < N
    · obtain ⟨j, hj⟩ : ∃ j : Nat, (N : Int) - (t : Int) - 1 = j := ⟨N - t - 1, by omega⟩
      have hjN : j < N := by omega
      have ej : N - 1 - t = j := by omega
      have EJ := Lib.hid ej
      have HJ := Lib.hid hj
      have hj1 : (j : Int) + 1 + t ≤ N := by omega
      have hj2 : (N : Int) ≤ (j : Int) + 1 + t := by omega
      rw [hj]
      clear ej hj
      have hNi9 : (N : Int) ≤ 9223372036854775807 := hNi.2
      obtain ⟨vm, hvm, hcm, hvm2⟩ := (HM5.out.wr hwr HS.out) j j hjN hjN
      obtain ⟨vi, hvi, hci, hvi2⟩ := hxr j hjN
      obtain ⟨v0, _, hc0, _⟩ := HX0.out j hjN
      have hbw : b < w.heap.size := World.block_lt_of_cell? w _ hc0
      have hbs' := hwr.keep hbs (by omega)
      have hfz : wr.frozen? ⟨b, o + (off + (j : Int) * inc).toNat, none⟩ = false := by
        obtain ⟨v5, _, hc5, _⟩ := HX.out j hjN
        rw [hwr.frozen hc5, hBw.frozen hbw]; exact HF.out j hjN
      obtain ⟨q1, q2, q3, q4⟩ := good_at (i := j) (j := j) HG.out (by omega) (by omega) (by omega) (by omega)
      obtain ⟨r1, r2, r3, r4⟩ := right_at (i := j) HG'.out (by omega) (by omega)
      have HV2 := Lib.hid hvi2
      have HV4 := Lib.hid hvm2
      have HXR2 := Lib.hid hxr
      have HWR2 := Lib.hid hwr
      clear hvi2 hvm2 hxr hwr hc0
      go_wp2
      refine wp_region_calm_tail 10 (by kernel_rfl) (by kernel_rfl) (BL wr) (fun _ _ _ => False) (BL.refl _).drew ?_
      simp only [List.take_succ_cons, List.take_zero, List.drop_succ_cons, List.drop_zero]
      repeat (first
        | (refine cmMove _ (by rfl) ?_; simp only [List.set_cons_succ, List.set_cons_zero])
        | (refine cmNil _ (by rfl) ?_; simp only [List.set_cons_succ, List.set_cons_zero])
        | (refine cmFdiv _ _ (by rfl) (by rfl) (fun _ n h => h.drewN n) (fun r hr hcr => ?_); simp only [List.set_cons_succ, List.set_cons_zero])
        | (refine cwW (by rfl) (fun K hK w' hw => ?_); have k1 := cells_of (hw.row hbs'); have k2 := hw.cell hci; go_step; refine hK _ _ hw ?_; clear hK k1 k2 hw w' K)
        | (refine cwF (fun F hF w' hw => ?_); go_simp
           first
             | ((with_reducible refine calm_call (by kernel_rfl) hw (num_calls _ _ _ _ _ _ _ _ _ _ _ _ _ _ (by omega) r3 r1 r2 hs') (hF _ ?_)); clear hF hw w' F; simp only [put_lit, List.set_cons_succ, List.set_cons_zero])
             | (refine calm_call (by kernel_rfl) hw (sysat_calls _ _ _ _ _ _ _ _ _ _ _ _ _ _ _ _ hs (by omega) q3 q1 q2 (by omega) (hw.cell hcm)) (hF _ ?_); clear hF hw w' F; simp only [put_lit, List.set_cons_succ, List.set_cons_zero])))
      refine wpCalm_nil (fun w6 hw6 => ?_)
      have hci6 := hw6.cell hci
      have hfz6 : w6.frozen? ⟨b, o + (off + (j : Int) * inc).toNat, none⟩ = false := by rw [hw6.frozen (World.block_lt_of_cell? _ _ hci)]; exact hfz
      have HC := Lib.hid hcr
      clear hcr
      go_wp2
      refine gen_world (fun wz hWz => ?_)
      have hwz : WrB w5 wz b (XS o off inc N) := by rw [hWz]; exact HWR2.out.trans ((WrB.of_below hw6 _ _).trans (WrB.set _ _ _ _ ⟨j, hjN, rfl⟩ _))
      have hxz : XAt wz b o off inc N (upd (upN M N t X) j (fdiv (upN M N t X j) (M j j))) := by
        have hx := HXR2.out.put hw6 hoff hinc j r hjN hr
        rw [HC.out] at hx
        rw [hWz, ← HV2.out, ← HV4.out, fdiv_cn]; exact hx
      clear hWz
      have HXZ := Lib.hid hxz
      have HWZ := Lib.hid hwz
      clear hxz hwz
      clear hci6 hfz6 hbs' hfz hcm hci
      go_loopw [86] (fun iv wr => ∃ i : Nat, i ≤ j ∧ iv = .int .i64 i ∧ WrB w5 wr b (XS o off inc N) ∧ XAt wr b o off inc N (elim M j 0 i (upd (upN M N t X) j (fdiv (upN M N t X j) (M j j))))) (fun iv _ => (j - intOf iv).toNat)
      case atStart => exact ⟨0, Nat.zero_le _, rfl, HWZ.out, by rw [elim_none]; exact HXZ.out⟩
      case round =>
        clear HXR2 HWR2 HC HV2 HV4
        obtain ⟨i, hi, rfl, hwr, hxr⟩ := hrel
        by_cases hlt2 : i < j
        · have hiN : i < N := by omega
          obtain ⟨vm, hvm, hcm, hvm2⟩ := (HM5.out.wr hwr HS.out) i j hiN hjN
          obtain ⟨vi, hvi, hci, hvi2⟩ := hxr i hiN
          obtain ⟨vj, hvj, hcj, hvj2⟩ := hxr j hjN
          obtain ⟨v0, _, hc0, _⟩ := HX0.out i hiN
          have hbw : b < w.heap.size := World.block_lt_of_cell? w _ hc0
          have hbs' := hwr.keep hbs (by omega)
          have hfz : wr.frozen? ⟨b, o + (off + (i : Int) * inc).toNat, none⟩ = false := by
            obtain ⟨v5, _, hc5, _⟩ := HX.out i hiN
            rw [hwr.frozen hc5, hBw.frozen hbw]; exact HF.out i hiN
          obtain ⟨q1, q2, q3, q4⟩ := good_at (i := i) (j := j) HG.out (by omega) (by omega) (by omega) (by omega)
          obtain ⟨r1, r2, r3, r4⟩ := right_at (i := i) HG'.out (by omega) (by omega)
          obtain ⟨s1, s2, s3, s4⟩ := right_at (i := j) HG'.out (by omega) (by omega)
          have HV2 := Lib.hid hvi2
          have HV3 := Lib.hid hvj2
          have HV4 := Lib.hid hvm2
          have HXR2 := Lib.hid hxr
          have HWR2 := Lib.hid hwr
          clear hvi2 hvj2 hvm2 hxr hwr hc0
          go_wp2
          refine wp_region_calm_tail 7 (by kernel_rfl) (by kernel_rfl) (BL wr) (fun _ _ _ => False) (BL.refl _).drew ?_
          simp only [List.take_succ_cons, List.take_zero, List.drop_succ_cons, List.drop_zero]
          repeat (first
            | (refine cmMove _ (by rfl) ?_; simp only [List.set_cons_succ, List.set_cons_zero])
            | (refine cwW (by rfl) (fun K hK w' hw => ?_); have k1 := cells_of (hw.row hbs'); go_step; refine hK _ _ hw ?_; clear hK k1 hw w' K)
            | (refine cwF (fun F hF w' hw => ?_); go_simp
               refine calm_call (by kernel_rfl) hw (sysat_calls _ _ _ _ _ _ _ _ _ _ _ _ _ _ _ _ hs (by omega) q3 q1 q2 (by omega) (hw.cell hcm)) (hF _ ?_); clear hF hw w' F; simp only [put_lit, List.set_cons_succ, List.set_cons_zero]))
          refine wpCalm_nil (fun w6 hw6 => ?_)
          have hci6 := hw6.cell hci
          have hcj6 := hw6.cell hcj
          have hfz6 : w6.frozen? ⟨b, o + (off + (i : Int) * inc).toNat, none⟩ = false := by rw [hw6.frozen (World.block_lt_of_cell? _ _ hci)]; exact hfz
          go_wp2_with (go_at_call 95; refine (less_calls _ _ _ _ _ _ _ _ _ _ _ _ _ _ _ _ _ _ hs' hoff (by omega) r3 r1 (by omega) s3 s1 hci6 hcj6 hfz6).mono ?_; rintro e w8 ⟨rfl, r, w7, hb7, rfl, hr, hcr⟩)
          have HC := Lib.hid hcr
          clear hcr
          go_wp2
          go_roundw
          case rel =>
            refine ⟨i + 1, by omega, by go_num, ?_, ?_⟩
            · exact HWR2.out.trans ((WrB.of_below (hw6.call hb7) _ _).trans (WrB.set _ _ _ _ ⟨i, hiN, rfl⟩ _))
            · have hx := HXR2.out.put (hw6.call hb7) hoff hinc i r hiN hr
              rw [HC.out] at hx
              rw [elim_more _ _ _ _ _ (Nat.zero_le _) (by omega), ← HV2.out, ← HV3.out, ← HV4.out, fmul_cn, fsub_cn']; exact hx
          case measure => first | (simp [intOf]; done) | (simp [intOf]; omega)
        · have hij : i = j := by omega
          subst hij
          have HXR2 := Lib.hid hxr
          have HWR2 := Lib.hid hwr
          clear hxr hwr
          go_wp2
          go_roundw
          case rel => exact ⟨t + 1, by omega, congrArg (Value.int .i64) (by have := HJ.out; omega), HWR2.out, by show XAt _ _ _ _ _ _ (elim M (N - 1 - t) 0 (N - 1 - t) (upd (upN M N t X) (N - 1 - t) (fdiv (upN M N t X (N - 1 - t)) (M (N - 1 - t) (N - 1 - t))))); rw [EJ.out]; exact HXR2.out⟩
          case measure => first | (simp [intOf]; done) | (simp [intOf]; omega)
    · have htN : t = N := by omega
      subst htN
      have HXR := Lib.hid hxr
      have HWR := Lib.hid hwr
      clear hxr hwr
      rw [show (t : Int) - (t : Int) - 1 = -1 by omega]
      go_wp2
      go_ret
      exact ⟨rfl, (WrB.of_below hBw _ _).trans HWR.out, HXR.out⟩
end Go.Proofs.Ytapilgbbkbfcbaa
