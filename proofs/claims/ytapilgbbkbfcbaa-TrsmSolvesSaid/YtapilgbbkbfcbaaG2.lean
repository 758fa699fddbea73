/- Layer 7: whether a matrix may be multiplied: what the code computes. -/
import Derived.Test.YtapilgbbkbfcbaaG1
namespace Go.Proofs.Ytapilgbbkbfcbaa
open Go Go.RowKit
set_option maxRecDepth 100000
set_option maxHeartbeats 2000000 in
theorem gcheck_ok (am ax ay : Addr) (nm cm nx cx ny cy : Nat) (offm R C ld offx incx offy incy : Int) (w : World)
    (hsm : (nm : Int) ≤ lim) (m1 : I64 offm) (m2 : I64 R) (m3 : I64 C) (m4 : I64 ld) (hgm : goodP nm offm R C ld)
    (hsx : (nx : Int) ≤ lim) (x1 : I64 offx) (x3 : I64 incx) (hgx : rightP nx offx C incx)
    (hsy : (ny : Int) ≤ lim) (y1 : I64 offy) (y3 : I64 incy) (hgy : rightP ny offy R incy)
    (hym : ¬ meetP (some ay) offy 1 R incy (some am) offm R C ld) (hyx : ¬ meetP (some ay) offy 1 R incy (some ax) offx 1 C incx)
    (aym : ay ≠ am → ApartOK w ay am) (ayx : ay ≠ ax → ApartOK w ay ax) :
    Calls Try.prog 98 #[.agg #[.slice (some am) nm cm, .int .i64 offm, .int .i64 R, .int .i64 C, .int .i64 ld], .int .i64 R, .int .i64 C,
        .agg #[.slice (some ax) nx cx, .int .i64 offx, .int .i64 C, .int .i64 incx], .agg #[.slice (some ay) ny cy, .int .i64 offy, .int .i64 R, .int .i64 incy]] w
      fun e w' => e = .returned (.int .i64 0) ∧ Below w.heap.size w w' := by
  have HDm := Lib.hid (decide_eq_true hgm)
  have HDx := Lib.hid (decide_eq_true hgx)
  have HDy := Lib.hid (decide_eq_true hgy)
  have HYM := Lib.hid (decide_eq_false hym)
  have HYX := Lib.hid (decide_eq_false hyx)
  have HGM := Lib.hid hgm
  have HRX := Lib.hid (row_good hgx)
  have HRY := Lib.hid (row_good hgy)
  have i1 : I64 1 := by unfold I64; omega
  clear hgm hgx hgy hym hyx
  go_enter Try.func98, Try.ntmps98
  go_wp2_with fail
  refine gen_call (fun W0 hW0 => ?_)
  have hB0 : BL w W0 := by rw [hW0]; exact (((Below.refl _ _).alloc (Nat.le_refl _) _).alloc (by simp) _).alloc (by simp; omega) _
  have hbm : W0.heap[w.heap.size]? = some (.cells #[.slice (some am) nm cm, .int .i64 offm, .int .i64 R, .int .i64 C, .int .i64 ld] 24 (0, 0)) := by
    rw [hW0]; rw [Below.heap_alloc _ _ _ (by simp; omega), Below.heap_alloc _ _ _ (by simp)]; exact new_row _ _
  have hbx : W0.heap[w.heap.size + 1]? = some (.cells #[.slice (some ax) nx cx, .int .i64 offx, .int .i64 C, .int .i64 incx] 87 (0, 0)) := by
    rw [hW0]; rw [Below.heap_alloc _ _ _ (by simp)]
    have := new_row (w.alloc (.cells #[.slice (some am) nm cm, .int .i64 offm, .int .i64 R, .int .i64 C, .int .i64 ld] 24)) (.cells #[.slice (some ax) nx cx, .int .i64 offx, .int .i64 C, .int .i64 incx] 87); simpa using this
  have hby : W0.heap[w.heap.size + 2]? = some (.cells #[.slice (some ay) ny cy, .int .i64 offy, .int .i64 R, .int .i64 incy] 87 (0, 0)) := by
    rw [hW0]
    have := new_row ((w.alloc (.cells #[.slice (some am) nm cm, .int .i64 offm, .int .i64 R, .int .i64 C, .int .i64 ld] 24)).alloc (.cells #[.slice (some ax) nx cx, .int .i64 offx, .int .i64 C, .int .i64 incx] 87)) (.cells #[.slice (some ay) ny cy, .int .i64 offy, .int .i64 R, .int .i64 incy] 87); simpa using this
  clear hW0
  refine (good_calls _ _ _ _ _ _ _ _ hsm m1 m2 m3 m4).mono ?_
  rintro e w1 ⟨rfl, hb1⟩
  rw [HDm.out]
  have hB1 : BL W0 w1 := hb1
  have k1 := cells_of (hB1.row hbx)
  go_wp2_with fail
  refine (right_calls _ _ _ _ _ _ _ hsx x1 m3 x3).mono ?_
  rintro e w2 ⟨rfl, hb2⟩
  rw [HDx.out]
  have hB2 : BL W0 w2 := hB1.call hb2
  clear k1
  have k2 := cells_of (hB2.row hby)
  go_wp2_with fail
  refine (right_calls _ _ _ _ _ _ _ hsy y1 m2 y3).mono ?_
  rintro e w3 ⟨rfl, hb3⟩
  rw [HDy.out]
  have hB3 : BL W0 w3 := hB2.call hb3
  clear k2
  have k1 := cells_of (hB3.row hbx)
  have k2 := cells_of (hB3.row hby)
  have k3 := cells_of (hB3.row hbm)
  go_wp2
  refine wp_region_calm (by kernel_rfl) (by kernel_rfl) (BL w3) (fun _ _ _ => False) (BL.refl _).drew ?_
  clear k1 k2 k3
  repeat (first
    | (refine cmMove _ (by rfl) ?_; simp only [List.set_cons_succ, List.set_cons_zero])
    | (refine cmAssign _ (by rfl) ?_; simp only [List.set_cons_succ, List.set_cons_zero])
    | (refine cmPick _ _ _ (by rfl) (by rfl) (by rfl) ?_; simp only [put_lit, List.set_cons_succ, List.set_cons_zero, Bool.false_eq_true, if_false, if_true])
    | (refine cwW (by rfl) (fun K hK w' hw => ?_); have k1 := cells_of ((hB3.call hw).row hbm); have k2 := cells_of ((hB3.call hw).row hbx); have k3 := cells_of ((hB3.call hw).row hby); go_step; refine hK _ _ hw ?_; clear hK k1 k2 k3 hw w' K)
    | (refine cwWG (by rfl) (by rfl) (fun K hK w' hw => ?_); have k1 := cells_of ((hB3.call hw).row hbm); have k2 := cells_of ((hB3.call hw).row hbx); have k3 := cells_of ((hB3.call hw).row hby); go_step; refine hK _ _ hw ?_; clear hK k1 k2 k3 hw w' K)
    | ((first | refine cwF (fun F hF w' hw => ?_) | refine cwFG (by rfl) (fun F hF w' hw => ?_)); go_simp; (with_reducible refine calm_call (by kernel_rfl) hw (gemv_row _ _ _ _ _ _ _) (hF _ ?_)); clear hF hw w' F; simp only [put_lit, List.set_cons_succ, List.set_cons_zero]))
  refine cwF (fun F hF w' hw => ?_)
  go_simp
  refine calm_call (by kernel_rfl) hw (meet_any _ _ _ _ _ _ _ _ _ _ _ _ _ _ _ hsy y1 i1 m2 y3 HRY.out hsm m1 m2 m3 m4 HGM.out (fun _ => ⟨_, rfl⟩) (fun _ => ⟨_, rfl⟩) (fun a a' ha ha' hne => by cases ha; cases ha'; exact (aym hne).later (BL.call (BL.call hB0 hB3) hw))) (hF _ ?_)
  rw [HYM.out]
  clear hF hw w' F
  simp only [put_lit, List.set_cons_succ, List.set_cons_zero]
  repeat (first
    | (refine cmMove _ (by rfl) ?_; simp only [List.set_cons_succ, List.set_cons_zero])
    | (refine cmAssign _ (by rfl) ?_; simp only [List.set_cons_succ, List.set_cons_zero])
    | (refine cmPick _ _ _ (by rfl) (by rfl) (by rfl) ?_; simp only [put_lit, List.set_cons_succ, List.set_cons_zero, Bool.false_eq_true, if_false, if_true])
    | (refine cwW (by rfl) (fun K hK w' hw => ?_); have k1 := cells_of ((hB3.call hw).row hbm); have k2 := cells_of ((hB3.call hw).row hbx); have k3 := cells_of ((hB3.call hw).row hby); go_step; refine hK _ _ hw ?_; clear hK k1 k2 k3 hw w' K)
    | (refine cwWG (by rfl) (by rfl) (fun K hK w' hw => ?_); have k1 := cells_of ((hB3.call hw).row hbm); have k2 := cells_of ((hB3.call hw).row hbx); have k3 := cells_of ((hB3.call hw).row hby); go_step; refine hK _ _ hw ?_; clear hK k1 k2 k3 hw w' K)
    | ((first | refine cwF (fun F hF w' hw => ?_) | refine cwFG (by rfl) (fun F hF w' hw => ?_)); go_simp; (with_reducible refine calm_call (by kernel_rfl) hw (gemv_row _ _ _ _ _ _ _) (hF _ ?_)); clear hF hw w' F; simp only [put_lit, List.set_cons_succ, List.set_cons_zero]))
  refine cwFG (by rfl) (fun F hF w' hw => ?_)
  go_simp
  refine calm_call (by kernel_rfl) hw (meet_any _ _ _ _ _ _ _ _ _ _ _ _ _ _ _ hsy y1 i1 m2 y3 HRY.out hsx x1 i1 m3 x3 HRX.out (fun _ => ⟨_, rfl⟩) (fun _ => ⟨_, rfl⟩) (fun a a' ha ha' hne => by cases ha; cases ha'; exact (ayx hne).later (BL.call (BL.call hB0 hB3) hw))) (hF _ ?_)
  rw [HYX.out]
  clear hF hw w' F
  simp only [put_lit, List.set_cons_succ, List.set_cons_zero]
  repeat (first
    | (refine cmMove _ (by rfl) ?_; simp only [List.set_cons_succ, List.set_cons_zero])
    | (refine cmAssign _ (by rfl) ?_; simp only [List.set_cons_succ, List.set_cons_zero])
    | (refine cmPick _ _ _ (by rfl) (by rfl) (by rfl) ?_; simp only [put_lit, List.set_cons_succ, List.set_cons_zero, Bool.false_eq_true, if_false, if_true])
    | (refine cwW (by rfl) (fun K hK w' hw => ?_); have k1 := cells_of ((hB3.call hw).row hbm); have k2 := cells_of ((hB3.call hw).row hbx); have k3 := cells_of ((hB3.call hw).row hby); go_step; refine hK _ _ hw ?_; clear hK k1 k2 k3 hw w' K)
    | (refine cwWG (by rfl) (by rfl) (fun K hK w' hw => ?_); have k1 := cells_of ((hB3.call hw).row hbm); have k2 := cells_of ((hB3.call hw).row hbx); have k3 := cells_of ((hB3.call hw).row hby); go_step; refine hK _ _ hw ?_; clear hK k1 k2 k3 hw w' K)
    | ((first | refine cwF (fun F hF w' hw => ?_) | refine cwFG (by rfl) (fun F hF w' hw => ?_)); go_simp; (with_reducible refine calm_call (by kernel_rfl) hw (gemv_row _ _ _ _ _ _ _) (hF _ ?_)); clear hF hw w' F; simp only [put_lit, List.set_cons_succ, List.set_cons_zero]))
  refine wpCalm_nil (fun w4 hw4 => ?_)
  go_wp2
  go_ret
  exact ⟨rfl, BL.call hB0 (hB3.call hw4)⟩
end Go.Proofs.Ytapilgbbkbfcbaa
