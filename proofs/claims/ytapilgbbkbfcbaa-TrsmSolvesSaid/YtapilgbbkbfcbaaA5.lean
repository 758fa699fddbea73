/- Layer 14's law: solves, one list: what the code computes. -/
import Derived.Test.YtapilgbbkbfcbaaK6
namespace Go.Proofs.Ytapilgbbkbfcbaa
open Go Go.RowKit

set_option maxRecDepth 100000
set_option maxHeartbeats 4000000 in
theorem solves_c (kind size : Int) (A : Option Addr) (nm cm : Nat) (offm R C ld : Int) (A' : Option Addr) (n c : Nat) (off R' C' ldx : Int) (w : World) (Fm Fx : Nat → Nat)
    (hkind : I64 kind) (hsize : I64 size) (m1 : I64 offm) (m2 : I64 R) (m3 : I64 C) (m4 : I64 ld) (x1 : I64 off) (x2 : I64 R') (x3 : I64 C') (x4 : I64 ldx)
    (hAm : LAt w A nm Fm) (hAx : LAt w A' n Fx) (hnm : 0 < nm) :
    Calls Try.prog 3 #[.int .i64 kind, .int .i64 size, .agg #[.slice A nm cm, .int .i64 offm, .int .i64 R, .int .i64 C, .int .i64 ld], .agg #[.slice A' n c, .int .i64 off, .int .i64 R', .int .i64 C', .int .i64 ldx], .bool true] w
      fun e w' => e = .returned (.bool true) ∧ Below w.heap.size w w' := by
  obtain ⟨gm, hgm⟩ : ∃ g, g = greatB nm R C := ⟨_, rfl⟩
  obtain ⟨gx, hgx⟩ : ∃ g, g = greatB n R' C' := ⟨_, rfl⟩
  have HG := Lib.hid (And.intro hgm (And.intro hgx (And.intro hAm hAx)))
  clear hgm hgx hAm hAx
  go_enter Try.func3, Try.ntmps3
  go_wp2_with fail
  refine gen_call (fun W hW => ?_)
  have hB : BL w W := by rw [hW]; repeat (first | exact Below.refl _ _ | refine Below.alloc ?_ (by first | (simp; done) | (simp; omega)) _)
  have hbm : W.heap[w.heap.size]? = some (.cells #[.slice A nm cm, .int .i64 offm, .int .i64 R, .int .i64 C, .int .i64 ld] 24 (0, 0)) := by
    rw [hW]; rw [Below.heap_alloc _ _ _ (by first | (simp; done) | (simp; omega))]; exact new_row _ _
  have hbx : W.heap[w.heap.size + 1]? = some (.cells #[.slice A' n c, .int .i64 off, .int .i64 R', .int .i64 C', .int .i64 ldx] 24 (0, 0)) := by
    rw [hW]; exact new_at _ _ (by simp)
  clear hW
  refine (awake_calls W).mono ?_
  rintro e w1 ⟨rfl, hb1'⟩
  have hB1 : BL W w1 := hb1'
  have k1 := cells_of (hB1.row hbm)
  have k2 := cells_of (hB1.row hbx)
  clear hb1'
  cases gm with
  | true =>
    go_wp2_with fail
    refine (great_calls _ _ _ _ _ _ _ _ true HG.out.1).mono ?_
    rintro e w2 ⟨rfl, hb2⟩
    go_wp2_with fail
    refine (awake_calls w2).mono ?_
    rintro e w3 ⟨rfl, hb3⟩
    go_wp2
    go_ret
    exact ⟨rfl, hB.call (BL.call hB1 (BL.call hb2 hb3))⟩
  | false =>
    go_wp2_with fail
    refine (great_calls _ _ _ _ _ _ _ _ false HG.out.1).mono ?_
    rintro e w2 ⟨rfl, hb2⟩
    have hB2 : BL W w2 := BL.call hB1 hb2
    clear k1 k2
    have k1 := cells_of (hB2.row hbm)
    have k2 := cells_of (hB2.row hbx)
    go_wp2_with fail
    refine (great_calls _ _ _ _ _ _ _ _ gx HG.out.2.1).mono ?_
    rintro e w3 ⟨rfl, hb3⟩
    have hB3 : BL W w3 := BL.call hB2 hb3
    clear k1 k2 hB1 hb2 hB2 hb3
    have hB3w : BL w w3 := BL.call hB hB3
    have q1 := hB3.row hbm
    have q2 := hB3.row hbx
    cases gx with
    | true =>
      go_wp2_with fail
      refine (awake_calls w3).mono ?_
      rintro e w4 ⟨rfl, hb4⟩
      go_wp2
      go_ret
      exact ⟨rfl, hB.call (BL.call hB3 hb4)⟩
    | false =>
      have hsm : nm ≤ 1000 ∧ R ≤ 20 ∧ C ≤ 20 := by have := HG.out.1; unfold greatB at this; have := of_decide_eq_false this.symm; omega
      have hsx0 : n ≤ 1000 ∧ R' ≤ 20 ∧ C' ≤ 20 := by have := HG.out.2.1; unfold greatB at this; have := of_decide_eq_false this.symm; omega
      have hsx : nm ≤ 1000 ∧ R' ≤ 20 ∧ C' ≤ 20 := by omega
      have k1 := cells_of q1
      have k2 := cells_of q2
      have f2 : ∀ i, w3.frozen? ⟨w.heap.size + 1, i, none⟩ = false := fun i => by simp [World.frozen?, q2]
      have hz2 : w.heap.size + 1 < w3.heap.size := (Array.getElem?_eq_some_iff.1 q2).1
      have e0 : decide ((nm : Int) > 0) = true := decide_eq_true (by omega)
      go_wp2
      refine gen_world (fun W3 hW3 => ?_)
      have hBW3 : BL w W3 := by rw [hW3]; exact Below.setCell hB3w (by show w.heap.size ≤ w.heap.size + 1; omega) _
      have q1 : W3.heap[w.heap.size]? = some (.cells #[.slice A nm cm, .int .i64 offm, .int .i64 R, .int .i64 C, .int .i64 ld] 24 (0, 0)) := by rw [hW3]; exact row_other q1 (by show w.heap.size + 1 ≠ w.heap.size; omega) _
      have q2 : W3.heap[w.heap.size + 1]? = some (.cells #[.slice A nm cm, .int .i64 off, .int .i64 R', .int .i64 C', .int .i64 ldx] 24 (0, 0)) := by rw [hW3]; exact row_set q2 0 _
      clear hW3 k1 k2 f2 hz2
      have hAm3 := HG.out.2.2.1.later hBW3
      have hAx3 := HG.out.2.2.1.later hBW3
      have H3 := Lib.hid (And.intro hAm3 (And.intro hAx3 hBW3))
      clear hAm3 hAx3 hBW3 hB3w hB3 hB hbm hbx
      refine wp_region_free2 6 (BL W3) (fun i => if i = 1 then [0] else if i = 3 then [2] else [])
        (fun i v w' => match i with
          | 0 => v = matA A nm cm offm R C ld
          | 1 => ∃ g c', v = matV g nm c' offm R C ld ∧ OwnL w' W3.heap.size g c' nm Fm
          | 2 => v = matA A nm cm off R' C' ldx
          | 3 => ∃ g c', v = matV g nm c' off R' C' ldx ∧ OwnL w' W3.heap.size g c' nm Fm
          | _ => ∃ r, v = .pointer (some ⟨r, 0, none⟩) ∧ W3.heap.size ≤ r ∧ w'.heap[r]? = some (.cells zeroMat 24 (0, 0)))
        (fun i v => if i = 0 ∨ i = 2 then [] else blkOf v) (by kernel_rfl) (by kernel_rfl) (BL.refl _).drew ?_ ?_
      · intro i v w' w'' h hb
        match i, h with
        | 0, h => exact h
        | 1, ⟨g, c', h1, h2⟩ => exact ⟨g, c', h1, h2.later hb⟩
        | 2, h => exact h
        | 3, ⟨g, c', h1, h2⟩ => exact ⟨g, c', h1, h2.later hb⟩
        | (i + 4), ⟨r, h1, h2, h3⟩ => exact ⟨r, h1, h2, (show BL w' w'' from hb).row h3⟩
      · intro vs
        simp only [List.take_succ_cons, List.take_zero, List.drop_succ_cons, List.drop_zero]
        refine ob_step rfl (fun w4 hw4 _ => ?_) ?_
        · refine free_wp rfl rfl (by simp) (fun K hK => ?_)
          have k2 := cells_of (hw4.row q1)
          go_step
          exact hK _ _ ⟨hw4, Below.refl _ _, rfl, fun b hb => by cases hb⟩
        rw [put_lit]; simp only [List.set_cons_succ, List.set_cons_zero]
        refine ob_step rfl (fun w4 hw4 hd => ?_) ?_
        · have e0 := hd 0 (List.mem_singleton.2 rfl)
          simp only at e0
          rw [e0]
          unfold matA
          go_simp
          refine (apart_calls A nm cm offm R C ld Fm w4 (H3.out.1.later hw4) hsm.1).mono ?_
          rintro e w5 ⟨g, c', rfl, hO, hb5⟩
          exact ⟨_, rfl, hw4.call hb5, hb5, ⟨g, c', rfl, hO.base hw4.size⟩, fun b hb => by
            simp [blkOf] at hb; subst hb; exact ⟨hO.1, hO.lt⟩⟩
        rw [put_lit]; simp only [List.set_cons_succ, List.set_cons_zero]
        refine ob_step rfl (fun w4 hw4 _ => ?_) ?_
        · refine free_wp rfl rfl (by simp) (fun K hK => ?_)
          have k2 := cells_of (hw4.row q2)
          go_step
          exact hK _ _ ⟨hw4, Below.refl _ _, rfl, fun b hb => by cases hb⟩
        rw [put_lit]; simp only [List.set_cons_succ, List.set_cons_zero]
        refine ob_step rfl (fun w4 hw4 hd => ?_) ?_
        · have e0 := hd 2 (List.mem_singleton.2 rfl)
          simp only at e0
          rw [e0]
          unfold matA
          go_simp
          refine (apart_calls A nm cm off R' C' ldx Fm w4 (H3.out.2.1.later hw4) hsx.1).mono ?_
          rintro e w5 ⟨g, c', rfl, hO, hb5⟩
          exact ⟨_, rfl, hw4.call hb5, hb5, ⟨g, c', rfl, hO.base hw4.size⟩, fun b hb => by
            simp [blkOf] at hb; subst hb; exact ⟨hO.1, hO.lt⟩⟩
        rw [put_lit]; simp only [List.set_cons_succ, List.set_cons_zero]
        refine ob_step rfl (fun w4 hw4 _ => ?_) ?_
        · refine free_wp rfl rfl (by simp) (fun K hK => ?_)
          go_step
          exact hK _ _ ⟨hw4.call ((Below.refl _ _).alloc (Nat.le_refl _) _), (Below.refl _ _).alloc (Nat.le_refl _) _, ⟨_, rfl, hw4.size, new_row _ _⟩, fun b hb => by
            simp [blkOf] at hb; subst hb; simp⟩
        rw [put_lit]; simp only [List.set_cons_succ, List.set_cons_zero]
        refine ob_step rfl (fun w4 hw4 _ => ?_) ?_
        · refine free_wp rfl rfl (by simp) (fun K hK => ?_)
          go_step
          exact hK _ _ ⟨hw4.call ((Below.refl _ _).alloc (Nat.le_refl _) _), (Below.refl _ _).alloc (Nat.le_refl _) _, ⟨_, rfl, hw4.size, new_row _ _⟩, fun b hb => by
            simp [blkOf] at hb; subst hb; simp⟩
        rw [put_lit]; simp only [List.set_cons_succ, List.set_cons_zero]
        refine ob_end (fun w4 hw4 hψ hsep _ => ?_)
        obtain ⟨g1, c1, e1, hO1⟩ := hψ 1 (by omega)
        obtain ⟨g2, c2, e2, hO2⟩ := hψ 3 (by omega)
        obtain ⟨r1, e3, hr1, hr1'⟩ := hψ 4 (by omega)
        obtain ⟨r2, e4, hr2, hr2'⟩ := hψ 5 (by omega)
        have s12 := hsep 1 3 (by omega) (by omega) (by omega)
        have s34 := hsep 4 5 (by omega) (by omega) (by omega)
        have s13 := hsep 1 4 (by omega) (by omega) (by omega)
        have s14 := hsep 1 5 (by omega) (by omega) (by omega)
        have s23 := hsep 3 4 (by omega) (by omega) (by omega)
        have s24 := hsep 3 5 (by omega) (by omega) (by omega)
        rw [e1, e2] at s12
        rw [e3, e4] at s34
        rw [e1, e3] at s13
        rw [e1, e4] at s14
        rw [e2, e3] at s23
        rw [e2, e4] at s24
        simp [blkOf, matV] at s12 s34 s13 s14 s23 s24
        simp only [Nat.zero_add, Nat.reduceAdd]
        rw [e1, e2, e3, e4]
        unfold matV
        generalize vs 0 = y0
        generalize vs 2 = y2
        clear hψ hsep e1 e2 e3 e4
        have k4 := cells_of hr1'
        have k5 := cells_of hr2'
        have f4 : ∀ i, w4.frozen? ⟨r1, i, none⟩ = false := fun i => by simp [World.frozen?, hr1']
        have f5 : ∀ i, w4.frozen? ⟨r2, i, none⟩ = false := fun i => by simp [World.frozen?, hr2']
        have z4 := hw4.size
        have h41 : r1 < w4.heap.size := (Array.getElem?_eq_some_iff.1 hr1').1
        have h42 : r2 < w4.heap.size := (Array.getElem?_eq_some_iff.1 hr2').1
        unfold zeroMat at k4 k5
        have HO := Lib.hid (And.intro hO1 (And.intro hO2 (And.intro hr1' (And.intro hr2' hw4))))
        clear hO1 hO2 hr1' hr2' hw4
        have s34' : ¬ r2 = r1 := fun e => s34 e.symm
        generalize hy : Value.bool true = yb
        have HYB := Lib.hid hy
        clear hy
        go_wp2
        refine gen_world (fun W4 hW4 => ?_)
        change W4 = setMat (setMat w4 r1 _ _ _ _ _) r2 _ _ _ _ _ at hW4
        have h1w : W4.heap[r1]? = some (.cells #[.slice (some ⟨g1, 0, none⟩) nm c1, .int .i64 offm, .int .i64 R, .int .i64 C, .int .i64 ld] 24 (0, 0)) := by rw [hW4]; exact setMat_other (setMat_row HO.out.2.2.1 _ _ _ _ _) s34' _ _ _ _ _
        have h2w : W4.heap[r2]? = some (.cells #[.slice (some ⟨g2, 0, none⟩) nm c2, .int .i64 off, .int .i64 R', .int .i64 C', .int .i64 ldx] 24 (0, 0)) := by rw [hW4]; exact setMat_row (setMat_other HO.out.2.2.2.1 s34 _ _ _ _ _) _ _ _ _ _
        clear k4 k5 f4 f5 h41 h42
        have k4 := cells_of h1w
        have k5 := cells_of h2w
        have f4 : ∀ i, W4.frozen? ⟨r1, i, none⟩ = false := fun i => by simp [World.frozen?, h1w]
        have f5 : ∀ i, W4.frozen? ⟨r2, i, none⟩ = false := fun i => by simp [World.frozen?, h2w]
        have h41 : r1 < W4.heap.size := (Array.getElem?_eq_some_iff.1 h1w).1
        have h42 : r2 < W4.heap.size := (Array.getElem?_eq_some_iff.1 h2w).1
        have HW4 := Lib.hid hW4
        clear hW4 h1w h2w
        rw [← HYB.out]
        go_wp2_with fail
        refine gen_call (fun W5 hW5 => ?_)
        change W5 = W4.setCell ⟨r2, 0, none⟩ _ at hW5
        rw [HW4.out] at hW5
        have hBs : Below w.heap.size w (setMat (setMat w4 r1 (.slice (some ⟨g1, 0, none⟩) nm c1) (.int .i64 offm) (.int .i64 R) (.int .i64 C) (.int .i64 ld)) r2 (.slice (some ⟨g2, 0, none⟩) nm c2) (.int .i64 off) (.int .i64 R') (.int .i64 C') (.int .i64 ldx)) := below_setMat (below_setMat (BL.call H3.out.2.2 HO.out.2.2.2.2) (by have := H3.out.2.2.size; omega) _ _ _ _ _) (by have := H3.out.2.2.size; omega) _ _ _ _ _
        have hz3 : w.heap.size ≤ W3.heap.size := H3.out.2.2.size
        have hz3' : w.heap.size + 1 < W3.heap.size := (Array.getElem?_eq_some_iff.1 q2).1
        have s12' : ¬ g2 = g1 := fun e => s12 e.symm
        have hl1 : W3.heap.size ≤ g1 := HO.out.1.1
        have hl2 : W3.heap.size ≤ g2 := HO.out.2.1.1
        change W5 = (setMat (setMat w4 r1 _ _ _ _ _) r2 _ _ _ _ _).setCell ⟨r2, 0, none⟩ _ at hW5
        have hr1w : W5.heap[r1]? = some (.cells #[.slice (some ⟨g1, 0, none⟩) nm c1, .int .i64 offm, .int .i64 R, .int .i64 C, .int .i64 ld] 24 (0, 0)) := by rw [hW5]; exact row_other (setMat_other (setMat_row HO.out.2.2.1 _ _ _ _ _) s34' _ _ _ _ _) s34' _
        have hr2w : W5.heap[r2]? = some (.cells #[.slice (some ⟨g1, 0, none⟩) nm c1, .int .i64 off, .int .i64 R', .int .i64 C', .int .i64 ldx] 24 (0, 0)) := by rw [hW5]; exact row_set (setMat_row (setMat_other HO.out.2.2.2.1 s34 _ _ _ _ _) _ _ _ _ _) 0 _
        have hO1 : OwnL W5 W3.heap.size g1 c1 nm Fm := by rw [hW5]; exact ((HO.out.1.setMat (fun e => s13 e.symm) _ _ _ _ _).setMat (fun e => s14 e.symm) _ _ _ _ _).set (a := ⟨r2, 0, none⟩) (fun e => s14 e.symm) _
        have hOx : OwnL W5 W3.heap.size g1 c1 nm Fm := hO1
        have hmw : W5.heap[w.heap.size]? = some (.cells #[.slice A nm cm, .int .i64 offm, .int .i64 R, .int .i64 C, .int .i64 ld] 24 (0, 0)) := by
          rw [hW5]; exact row_other (setMat_other (setMat_other (HO.out.2.2.2.2.row q1) (by omega) _ _ _ _ _) (by omega) _ _ _ _ _) (by show r2 ≠ w.heap.size; omega) _
        have hxw : W5.heap[w.heap.size + 1]? = some (.cells #[.slice A nm cm, .int .i64 off, .int .i64 R', .int .i64 C', .int .i64 ldx] 24 (0, 0)) := by
          rw [hW5]; exact row_other (setMat_other (setMat_other (HO.out.2.2.2.2.row q2) (by omega) _ _ _ _ _) (by omega) _ _ _ _ _) (by show r2 ≠ w.heap.size + 1; omega) _
        have hBW : Below w.heap.size w W5 := by rw [hW5]; exact hBs.setCell (p := ⟨r2, 0, none⟩) (by show w.heap.size ≤ r2; omega) _
        clear hW5 k4 k5 f4 f5 hBs q1 q2
        have hlim : lim = 140737488355328 := lim_eq
        refine (tsolve_any kind size (some ⟨g1, 0, none⟩) nm c1 offm R C ld (some ⟨g1, 0, none⟩) nm c1 off R' C' ldx W5 g1 0 Fm Fm (by omega) m1 m2 m3 m4 (by omega) x1 x2 x3 x4 hsize (by omega) hO1.lat (fun _ => ⟨rfl, hOx.2.2.2.2⟩) hOx.lt (hOx.fz _) (fun _ _ a a' h1 h2 hne => by cases h1; cases h2; exact absurd rfl hne)).mono ?_
        rintro e w6 ⟨rfl, hw6, hx6⟩
        obtain ⟨MT, hMT⟩ : ∃ MT : Prop, MT = meetP (some ⟨g1, 0, none⟩) off R' C' ldx (some ⟨g1, 0, none⟩) offm R C ld := ⟨_, rfl⟩
        rw [← hMT] at hx6 ⊢
        obtain ⟨rT, hrT⟩ : ∃ r, tcode kind size nm offm R C ld nm off R' C' ldx MT Fm = r := ⟨_, rfl⟩
        obtain ⟨Lx, hLx⟩ : ∃ L, tleft kind size nm offm R C ld nm off R' C' ldx MT Fm Fm = L := ⟨_, rfl⟩
        rw [hrT]
        rw [hLx] at hx6
        have hOx' := hOx.wrote hw6 hx6
        have hO1' : OwnL w6 W3.heap.size g1 c1 nm Lx := hOx'
        have hB6 : Below w.heap.size w w6 := below_wr hBW hw6 (by omega)
        have p1 := hw6.keep hr1w (fun e => s13 e.symm)
        have p2 := hw6.keep hr2w (fun e => s14 e.symm)
        have p3 := hw6.keep hmw (by omega)
        have p4 := hw6.keep hxw (by omega)
        have HS := Lib.hid (And.intro hO1' (And.intro hOx' (And.intro hB6 (And.intro p1 (And.intro p2 (And.intro p3 p4))))))
        have HT := Lib.hid (And.intro hrT (And.intro hLx hMT))
        have k1 := cells_of p1
        have k2 := cells_of p2
        have k3 := cells_of p3
        have k4 := cells_of p4
        have z1 : r1 < w6.heap.size := (Array.getElem?_eq_some_iff.1 p1).1
        have z2 : r2 < w6.heap.size := (Array.getElem?_eq_some_iff.1 p2).1
        have z3 : w.heap.size + 1 < w6.heap.size := (Array.getElem?_eq_some_iff.1 p4).1
        have z4 : w.heap.size < w6.heap.size := (Array.getElem?_eq_some_iff.1 p3).1
        clear hx6 hw6 hO1 hOx hBW hO1' hOx' hB6 p1 p2 p3 p4 hr1w hr2w hmw hxw hrT hLx hMT
        by_cases hbad : kind < 1 ∨ 2 < kind ∨ size < 1 ∨ ¬ goodP nm offm R C ld ∨ ¬ goodP nm off R' C' ldx
        · have e1 : rT = 1 := HT.out.1.symm.trans (tcode_bad hbad)
          have e2 : Fm = Lx := (HT.out.2.1.symm.trans (tleft_err (by rw [HT.out.1, e1]; decide))).symm
          subst e1
          subst e2
          by_cases a1 : kind < 1
          · have d1 : decide (kind < 1) = true := decide_eq_true a1
            go_wp2_with fail
            refine gen_call (fun W7 hW7 => ?_)
            have hB7 : BL w6 W7 := by rw [hW7]; first | assumption | (repeat (first | exact Below.refl _ _ | refine Below.alloc ?_ (by first | (simp; done) | (simp; omega)) _))
            clear hW7
            refine (all_calls (some ⟨g1, 0, none⟩) A nm c1 nm cm Fm Fm W7 (HS.out.1.lat.later hB7) (HG.out.2.2.1.later (BL.call HS.out.2.2.1 hB7)) (by unfold maxLen; omega) (by unfold maxLen; omega) true ⟨fun _ => ⟨rfl, fun _ _ => rfl⟩, fun _ => rfl⟩).mono ?_
            rintro e w8 ⟨rfl, hb8⟩
            have hB8 : BL w6 w8 := BL.call hB7 hb8
            clear k1 k2 k3 k4
            have k2 := cells_of (hB8.row HS.out.2.2.2.2.1)
            have k4 := cells_of (hB8.row HS.out.2.2.2.2.2.2)
            go_wp2_with fail
            refine (all_calls (some ⟨g1, 0, none⟩) A nm c1 nm cm Fm Fm w8 (HS.out.2.1.lat.later hB8) (HG.out.2.2.1.later (BL.call HS.out.2.2.1 hB8)) (by unfold maxLen; omega) (by unfold maxLen; omega) true ⟨fun _ => ⟨rfl, fun _ _ => rfl⟩, fun _ => rfl⟩).mono ?_
            rintro e w9 ⟨rfl, hb9⟩
            go_wp2_with fail
            refine (awake_calls w9).mono ?_
            rintro e w10 ⟨rfl, hb10⟩
            go_wp2
            go_ret
            exact ⟨rfl, BL.call HS.out.2.2.1 (BL.call hB8 (BL.call hb9 hb10))⟩
          · have d1 : decide (kind < 1) = false := decide_eq_false a1
            by_cases a2 : 2 < kind
            · have d2 : decide (kind > 2) = true := decide_eq_true a2
              go_wp2_with fail
              refine gen_call (fun W7 hW7 => ?_)
              have hB7 : BL w6 W7 := by rw [hW7]; first | assumption | (repeat (first | exact Below.refl _ _ | refine Below.alloc ?_ (by first | (simp; done) | (simp; omega)) _))
              clear hW7
              refine (all_calls (some ⟨g1, 0, none⟩) A nm c1 nm cm Fm Fm W7 (HS.out.1.lat.later hB7) (HG.out.2.2.1.later (BL.call HS.out.2.2.1 hB7)) (by unfold maxLen; omega) (by unfold maxLen; omega) true ⟨fun _ => ⟨rfl, fun _ _ => rfl⟩, fun _ => rfl⟩).mono ?_
              rintro e w8 ⟨rfl, hb8⟩
              have hB8 : BL w6 w8 := BL.call hB7 hb8
              clear k1 k2 k3 k4
              have k2 := cells_of (hB8.row HS.out.2.2.2.2.1)
              have k4 := cells_of (hB8.row HS.out.2.2.2.2.2.2)
              go_wp2_with fail
              refine (all_calls (some ⟨g1, 0, none⟩) A nm c1 nm cm Fm Fm w8 (HS.out.2.1.lat.later hB8) (HG.out.2.2.1.later (BL.call HS.out.2.2.1 hB8)) (by unfold maxLen; omega) (by unfold maxLen; omega) true ⟨fun _ => ⟨rfl, fun _ _ => rfl⟩, fun _ => rfl⟩).mono ?_
              rintro e w9 ⟨rfl, hb9⟩
              go_wp2_with fail
              refine (awake_calls w9).mono ?_
              rintro e w10 ⟨rfl, hb10⟩
              go_wp2
              go_ret
              exact ⟨rfl, BL.call HS.out.2.2.1 (BL.call hB8 (BL.call hb9 hb10))⟩
            · have d2 : decide (kind > 2) = false := decide_eq_false a2
              by_cases a3 : size < 1
              · have d3 : decide (size < 1) = true := decide_eq_true a3
                go_wp2_with fail
                refine gen_call (fun W7 hW7 => ?_)
                have hB7 : BL w6 W7 := by rw [hW7]; first | assumption | (repeat (first | exact Below.refl _ _ | refine Below.alloc ?_ (by first | (simp; done) | (simp; omega)) _))
                clear hW7
                refine (all_calls (some ⟨g1, 0, none⟩) A nm c1 nm cm Fm Fm W7 (HS.out.1.lat.later hB7) (HG.out.2.2.1.later (BL.call HS.out.2.2.1 hB7)) (by unfold maxLen; omega) (by unfold maxLen; omega) true ⟨fun _ => ⟨rfl, fun _ _ => rfl⟩, fun _ => rfl⟩).mono ?_
                rintro e w8 ⟨rfl, hb8⟩
                have hB8 : BL w6 w8 := BL.call hB7 hb8
                clear k1 k2 k3 k4
                have k2 := cells_of (hB8.row HS.out.2.2.2.2.1)
                have k4 := cells_of (hB8.row HS.out.2.2.2.2.2.2)
                go_wp2_with fail
                refine (all_calls (some ⟨g1, 0, none⟩) A nm c1 nm cm Fm Fm w8 (HS.out.2.1.lat.later hB8) (HG.out.2.2.1.later (BL.call HS.out.2.2.1 hB8)) (by unfold maxLen; omega) (by unfold maxLen; omega) true ⟨fun _ => ⟨rfl, fun _ _ => rfl⟩, fun _ => rfl⟩).mono ?_
                rintro e w9 ⟨rfl, hb9⟩
                go_wp2_with fail
                refine (awake_calls w9).mono ?_
                rintro e w10 ⟨rfl, hb10⟩
                go_wp2
                go_ret
                exact ⟨rfl, BL.call HS.out.2.2.1 (BL.call hB8 (BL.call hb9 hb10))⟩
              · have d3 : decide (size < 1) = false := decide_eq_false a3
                by_cases a4 : goodP nm offm R C ld
                · have a5 : ¬ goodP nm off R' C' ldx := by
                    rcases hbad with h | h | h | h | h
                    · exact absurd h a1
                    · exact absurd h a2
                    · exact absurd h a3
                    · exact absurd a4 h
                    · exact h
                  have HGD := Lib.hid (And.intro a4 a5)
                  clear a4 a5 hbad
                  go_wp2_with fail
                  refine gen_call (fun W7 hW7 => ?_)
                  have hB7 : BL w6 W7 := by rw [hW7]; repeat (first | exact Below.refl _ _ | refine Below.alloc ?_ (by first | (simp; done) | (simp; omega)) _)
                  have q5 : W7.heap[w6.heap.size]? = some (.cells #[.int .i64 0, .int .i64 0, .slice none 0 0] 31 (0, 0)) := by rw [hW7]; exact new_row _ _
                  clear hW7
                  refine (rgood_calls A nm cm offm R C ld W7 (by omega) m1 m2 m3 m4 true (decide_eq_true HGD.out.1).symm).mono ?_
                  rintro e w7 ⟨rfl, hb7⟩
                  have hb7' : BL w6 w7 := BL.call hB7 hb7
                  have q5 := (show BL W7 w7 from hb7).row q5
                  clear k1 k2 k3 k4
                  have k4 := cells_of (hb7'.row HS.out.2.2.2.2.2.2)
                  go_wp2_with fail
                  refine (rgood_calls A nm cm off R' C' ldx w7 (by omega) x1 x2 x3 x4 false (decide_eq_false HGD.out.2).symm).mono ?_
                  rintro e w7x ⟨rfl, hb7x⟩
                  have hb7'' : BL w6 w7x := BL.call hb7' hb7x
                  have q5 := (show BL w7 w7x from hb7x).row q5
                  clear k4
                  have k1 := cells_of (hb7''.row HS.out.2.2.2.1)
                  have k2 := cells_of (hb7''.row HS.out.2.2.2.2.1)
                  have k3 := cells_of (hb7''.row HS.out.2.2.2.2.2.1)
                  have k4 := cells_of (hb7''.row HS.out.2.2.2.2.2.2)
                  clear q5
                  go_wp2_with fail
                  refine gen_call (fun W7 hW7 => ?_)
                  have hB7 : BL w6 W7 := by rw [hW7]; first | assumption | (repeat (first | exact Below.refl _ _ | refine Below.alloc ?_ (by first | (simp; done) | (simp; omega)) _))
                  clear hW7
                  refine (all_calls (some ⟨g1, 0, none⟩) A nm c1 nm cm Fm Fm W7 (HS.out.1.lat.later hB7) (HG.out.2.2.1.later (BL.call HS.out.2.2.1 hB7)) (by unfold maxLen; omega) (by unfold maxLen; omega) true ⟨fun _ => ⟨rfl, fun _ _ => rfl⟩, fun _ => rfl⟩).mono ?_
                  rintro e w8 ⟨rfl, hb8⟩
                  have hB8 : BL w6 w8 := BL.call hB7 hb8
                  clear k1 k2 k3 k4
                  have k2 := cells_of (hB8.row HS.out.2.2.2.2.1)
                  have k4 := cells_of (hB8.row HS.out.2.2.2.2.2.2)
                  go_wp2_with fail
                  refine (all_calls (some ⟨g1, 0, none⟩) A nm c1 nm cm Fm Fm w8 (HS.out.2.1.lat.later hB8) (HG.out.2.2.1.later (BL.call HS.out.2.2.1 hB8)) (by unfold maxLen; omega) (by unfold maxLen; omega) true ⟨fun _ => ⟨rfl, fun _ _ => rfl⟩, fun _ => rfl⟩).mono ?_
                  rintro e w9 ⟨rfl, hb9⟩
                  go_wp2_with fail
                  refine (awake_calls w9).mono ?_
                  rintro e w10 ⟨rfl, hb10⟩
                  go_wp2
                  go_ret
                  exact ⟨rfl, BL.call HS.out.2.2.1 (BL.call hB8 (BL.call hb9 hb10))⟩
                · have HGD := Lib.hid a4
                  clear a4 hbad
                  go_wp2_with fail
                  refine gen_call (fun W7 hW7 => ?_)
                  have hB7 : BL w6 W7 := by rw [hW7]; repeat (first | exact Below.refl _ _ | refine Below.alloc ?_ (by first | (simp; done) | (simp; omega)) _)
                  clear hW7
                  refine (rgood_calls A nm cm offm R C ld W7 (by omega) m1 m2 m3 m4 false (decide_eq_false HGD.out).symm).mono ?_
                  rintro e w7 ⟨rfl, hb7⟩
                  have hb7' : BL w6 w7 := BL.call hB7 hb7
                  clear k1 k2 k3 k4
                  have k1 := cells_of (hb7'.row HS.out.2.2.2.1)
                  have k2 := cells_of (hb7'.row HS.out.2.2.2.2.1)
                  have k3 := cells_of (hb7'.row HS.out.2.2.2.2.2.1)
                  have k4 := cells_of (hb7'.row HS.out.2.2.2.2.2.2)
                  go_wp2_with fail
                  refine gen_call (fun W7 hW7 => ?_)
                  have hB7 : BL w6 W7 := by rw [hW7]; first | assumption | (repeat (first | exact Below.refl _ _ | refine Below.alloc ?_ (by first | (simp; done) | (simp; omega)) _))
                  clear hW7
                  refine (all_calls (some ⟨g1, 0, none⟩) A nm c1 nm cm Fm Fm W7 (HS.out.1.lat.later hB7) (HG.out.2.2.1.later (BL.call HS.out.2.2.1 hB7)) (by unfold maxLen; omega) (by unfold maxLen; omega) true ⟨fun _ => ⟨rfl, fun _ _ => rfl⟩, fun _ => rfl⟩).mono ?_
                  rintro e w8 ⟨rfl, hb8⟩
                  have hB8 : BL w6 w8 := BL.call hB7 hb8
                  clear k1 k2 k3 k4
                  have k2 := cells_of (hB8.row HS.out.2.2.2.2.1)
                  have k4 := cells_of (hB8.row HS.out.2.2.2.2.2.2)
                  go_wp2_with fail
                  refine (all_calls (some ⟨g1, 0, none⟩) A nm c1 nm cm Fm Fm w8 (HS.out.2.1.lat.later hB8) (HG.out.2.2.1.later (BL.call HS.out.2.2.1 hB8)) (by unfold maxLen; omega) (by unfold maxLen; omega) true ⟨fun _ => ⟨rfl, fun _ _ => rfl⟩, fun _ => rfl⟩).mono ?_
                  rintro e w9 ⟨rfl, hb9⟩
                  go_wp2_with fail
                  refine (awake_calls w9).mono ?_
                  rintro e w10 ⟨rfl, hb10⟩
                  go_wp2
                  go_ret
                  exact ⟨rfl, BL.call HS.out.2.2.1 (BL.call hB8 (BL.call hb9 hb10))⟩
        · have d1 : decide (kind < 1) = false := decide_eq_false (fun h => hbad (.inl h))
          have d2 : decide (kind > 2) = false := decide_eq_false (fun h => hbad (.inr (.inl h)))
          have d3 : decide (size < 1) = false := decide_eq_false (fun h => hbad (.inr (.inr (.inl h))))
          have g1' : goodP nm offm R C ld := Classical.byContradiction fun h => hbad (.inr (.inr (.inr (.inl h))))
          have g2' : goodP nm off R' C' ldx := Classical.byContradiction fun h => hbad (.inr (.inr (.inr (.inr h))))
          by_cases hsz : R = C ∧ R' = R
          · obtain ⟨N, rfl⟩ : ∃ N : Nat, R = N := ⟨R.toNat, by have := g1'.1; omega⟩
            obtain ⟨hsz1, hsz2⟩ := hsz
            subst hsz1
            subst hsz2
            obtain ⟨K, rfl⟩ : ∃ K : Nat, C' = K := ⟨C'.toNat, by have := g2'.2.1; omega⟩
            obtain ⟨r, hr⟩ := sol_bool (kind = 2 ∧ zeroDiag (tab offm ld Fm) N)
            have HK := Lib.hid (And.intro (show kind = 1 ∨ kind = 2 by omega) hr)
            have HGD := Lib.hid (And.intro g1' g2')
            have HBAD := Lib.hid hbad
            clear g1' g2' hbad hr
            have hspm : (spanA offm N N ≤ spanB offm N N ld ∧ spanA off N K ≤ spanB off N K ldx ∧ spanA offm N N ≤ spanB off N K ldx ∧ spanA off N K ≤ spanB offm N N ld) ↔ MT := by
              rw [HT.out.2.2]; exact spans_meet HGD.out.1 HGD.out.2
            by_cases hmt : MT
            · have HMT := Lib.hid hmt
              have HSP := Lib.hid (hspm.2 hmt)
              clear hspm hmt
              cases r with
              | false =>
                have e1 : rT = 2 := HT.out.1.symm.trans (tcode_meet HBAD.out ⟨rfl, rfl⟩ HMT.out)
                have e2 : Fm = Lx := (HT.out.2.1.symm.trans (tleft_err (by rw [HT.out.1, e1]; decide))).symm
                subst e1
                subst e2
                go_wp2_with fail
                refine gen_call (fun W7 hW7 => ?_)
                have hB7 : BL w6 W7 := by rw [hW7]; repeat (first | exact Below.refl _ _ | refine Below.alloc ?_ (by first | (simp; done) | (simp; omega)) _)
                have q5 : W7.heap[w6.heap.size]? = some (.cells #[.int .i64 0, .int .i64 0, .slice none 0 0] 31 (0, 0)) := by rw [hW7]; exact new_row _ _
                clear hW7
                refine (rgood_calls A nm cm offm N N ld W7 (by omega) m1 m2 m3 m4 true (decide_eq_true HGD.out.1).symm).mono ?_
                rintro e w7 ⟨rfl, hb7⟩
                have hb7' : BL w6 w7 := BL.call hB7 hb7
                have q5 := (show BL W7 w7 from hb7).row q5
                clear k1 k2 k3 k4
                have k4 := cells_of (hb7'.row HS.out.2.2.2.2.2.2)
                go_wp2_with fail
                refine (rgood_calls A nm cm off N K ldx w7 (by omega) x1 x2 x3 x4 true (decide_eq_true HGD.out.2).symm).mono ?_
                rintro e w7x ⟨rfl, hb7x⟩
                have hb7'' : BL w6 w7x := BL.call hb7' hb7x
                have q5 := (show BL w7 w7x from hb7x).row q5
                clear k4
                have k1 := cells_of (hb7''.row HS.out.2.2.2.1)
                have k2 := cells_of (hb7''.row HS.out.2.2.2.2.1)
                have k3 := cells_of (hb7''.row HS.out.2.2.2.2.2.1)
                have k4 := cells_of (hb7''.row HS.out.2.2.2.2.2.2)
                have q5x := q5
                have q1x := hb7''.row HS.out.2.2.2.2.2.1
                have q2x := hb7''.row HS.out.2.2.2.2.2.2
                have hA7 := HG.out.2.2.1.later (BL.call HS.out.2.2.1 hb7'')
                have hX7 := HG.out.2.2.1.later (BL.call HS.out.2.2.1 hb7'')
                have H7 := Lib.hid (And.intro hA7 (And.intro hX7 (And.intro hb7'' (And.intro hb7 hb7x))))
                have z7 := hb7x.size
                have z7' := hb7.size
                clear hA7 hX7 hb7'' hb7' hb7 hb7x
                go_wp2
                clear k1 k2 k3 k4
                refine wp_region_late 8 10 (BL w7x) (fun i => match i with | 2 => [1] | 4 => [3] | 5 => [0, 2, 4] | 6 => [5] | 7 => [6] | 8 => [6] | _ => [])
                  (fun i v w' => match i with
                    | 0 => v = .int .i64 kind
                    | 1 => v = matA A nm cm offm N N ld
                    | 2 => ∃ g, v = .agg #[.int .i64 N, .int .i64 N, .slice (some ⟨g, 0, none⟩) (N * N : Nat) (N * N : Nat)] ∧ OwnL w' w7x.heap.size g (N * N) (N * N) (rowT (tab offm ld Fm) N)
                    | 3 => v = matA A nm cm off N K ldx
                    | 4 => ∃ g, v = .agg #[.int .i64 N, .int .i64 K, .slice (some ⟨g, 0, none⟩) (N * K : Nat) (N * K : Nat)] ∧ OwnL w' w7x.heap.size g (N * K) (N * K) (rowT (tab off ldx Fm) K)
                    | 5 => ∃ g c', v = .tuple #[.agg #[.int .i64 N, .int .i64 K, .slice (some ⟨g, 0, none⟩) (N * K : Nat) c'], .bool false] ∧ OwnL w' w7x.heap.size g c' (N * K) (rowT (solT false kind (tab offm ld Fm) N (tab off ldx Fm)) K)
                    | 6 => ∃ g c', v = .tuple #[.agg #[.int .i64 N, .int .i64 K, .slice (some ⟨g, 0, none⟩) (N * K : Nat) c'], .bool false] ∧ OwnL w' w7x.heap.size g c' (N * K) (rowT (solT false kind (tab offm ld Fm) N (tab off ldx Fm)) K)
                    | 7 => ∃ g c', v = .agg #[.int .i64 N, .int .i64 K, .slice (some ⟨g, 0, none⟩) (N * K : Nat) c'] ∧ OwnL w' w7x.heap.size g c' (N * K) (rowT (solT false kind (tab offm ld Fm) N (tab off ldx Fm)) K)
                    | 8 => v = .bool false
                    | _ => ∃ r, v = .pointer (some ⟨r, 0, none⟩) ∧ w7x.heap.size ≤ r ∧ w'.heap[r]? = some (.cells #[.int .i64 0, .int .i64 0, .slice none 0 0] 31 (0, 0)))
                  (fun _ _ => []) (by kernel_rfl) (by kernel_rfl) (BL.refl _).drew ?_ (fun c dst v a w h => by cases dst <;> exact h) ?_
                · intro i v w' w'' h hb
                  match i, h with
                  | 0, h => exact h
                  | 1, h => exact h
                  | 2, ⟨g, h1, h2⟩ => exact ⟨g, h1, h2.later hb⟩
                  | 3, h => exact h
                  | 4, ⟨g, h1, h2⟩ => exact ⟨g, h1, h2.later hb⟩
                  | 5, ⟨g, c, h1, h2⟩ => exact ⟨g, c, h1, h2.later hb⟩
                  | 6, ⟨g, c, h1, h2⟩ => exact ⟨g, c, h1, h2.later hb⟩
                  | 7, ⟨g, c, h1, h2⟩ => exact ⟨g, c, h1, h2.later hb⟩
                  | 8, h => exact h
                  | (i + 9), ⟨r, h1, h2, h3⟩ => exact ⟨r, h1, h2, (show BL w' w'' from hb).row h3⟩
                intro vs
                simp only [List.take_succ_cons, List.take_zero, List.drop_succ_cons, List.drop_zero]
                refine obq_step rfl (by decide) (fun w8 hw8 _ => ?_) ?_
                · refine free_wp rfl rfl (by simp) (fun K hK => ?_)
                  go_step
                  exact hK _ _ ⟨hw8, Below.refl _ _, rfl, fun b hb => by cases hb⟩
                rw [put_lit]; simp only [List.set_cons_succ, List.set_cons_zero]
                refine obq_step rfl (by decide) (fun w8 hw8 _ => ?_) ?_
                · refine free_wp rfl rfl (by simp) (fun K hK => ?_)
                  have k1 := cells_of (hw8.row q1x)
                  go_step
                  exact hK _ _ ⟨hw8, Below.refl _ _, rfl, fun b hb => by cases hb⟩
                rw [put_lit]; simp only [List.set_cons_succ, List.set_cons_zero]
                refine obq_step rfl (by decide) (fun w8 hw8 hd => ?_) ?_
                · have e0 := hd 1 (by simp)
                  simp only at e0
                  rw [e0]
                  unfold matA
                  go_simp
                  refine (of_calls3 A nm cm offm ld N N Fm w8 (by omega) HGD.out.1 m1 m4 (by omega) (by omega) (H7.out.1.later hw8)).mono ?_
                  rintro e w9 ⟨g, rfl, hO, hb9⟩
                  exact ⟨_, rfl, hw8.call hb9, hb9, ⟨g, rfl, hO.base hw8.size⟩, fun b hb => by cases hb⟩
                rw [put_lit]; simp only [List.set_cons_succ, List.set_cons_zero]
                refine obq_step rfl (by decide) (fun w8 hw8 _ => ?_) ?_
                · refine free_wp rfl rfl (by simp) (fun K hK => ?_)
                  have k1 := cells_of (hw8.row q2x)
                  go_step
                  exact hK _ _ ⟨hw8, Below.refl _ _, rfl, fun b hb => by cases hb⟩
                rw [put_lit]; simp only [List.set_cons_succ, List.set_cons_zero]
                refine obq_step rfl (by decide) (fun w8 hw8 hd => ?_) ?_
                · have e0 := hd 3 (by simp)
                  simp only at e0
                  rw [e0]
                  unfold matA
                  go_simp
                  refine (of_calls3 A nm cm off ldx N K Fm w8 (by omega) HGD.out.2 x1 x4 (by omega) (by omega) (H7.out.2.1.later hw8)).mono ?_
                  rintro e w9 ⟨g, rfl, hO, hb9⟩
                  exact ⟨_, rfl, hw8.call hb9, hb9, ⟨g, rfl, hO.base hw8.size⟩, fun b hb => by cases hb⟩
                rw [put_lit]; simp only [List.set_cons_succ, List.set_cons_zero]
                refine obq_step rfl (by decide) (fun w8 hw8 hd => ?_) ?_
                · have e0 := hd 0 (by simp)
                  obtain ⟨ga, ea, hOa⟩ := hd 2 (by simp)
                  obtain ⟨gb, eb, hOb⟩ := hd 4 (by simp)
                  simp only at e0
                  rw [e0, ea, eb]
                  go_simp
                  refine (solve14_calls kind HK.out.1 ga 0 (N * N) (N * N) N (tab offm ld Fm) gb 0 (N * K) K (tab off ldx Fm) w8 (by omega) (by omega) (Nat.le_refl _) (Nat.le_trans (Nat.mul_le_mul (show N ≤ 64 by omega) (show N ≤ 64 by omega)) (by omega)) hOa.2.2.2.2 hOb.2.2.2.2 false (by have hk := HK.out.2; simpa using hk)).mono ?_
                  rintro e w9 ⟨g, c', rfl, hO, hb9⟩
                  exact ⟨_, rfl, hw8.call hb9, hb9, ⟨g, c', rfl, hO.base hw8.size⟩, fun b hb => by cases hb⟩
                rw [put_lit]; simp only [List.set_cons_succ, List.set_cons_zero]
                refine obq_step rfl (by decide) (fun w8 hw8 hd => ?_) ?_
                · obtain ⟨g5, c5, e0, hO5⟩ := hd 5 (by simp)
                  rw [e0]
                  refine free_wp rfl rfl (by simp) (fun K hK => ?_)
                  go_step
                  exact hK _ _ ⟨hw8, Below.refl _ _, ⟨_, _, rfl, hO5⟩, fun b hb => by cases hb⟩
                rw [put_lit]; simp only [List.set_cons_succ, List.set_cons_zero]
                refine obq_step rfl (by decide) (fun w8 hw8 hd => ?_) ?_
                · obtain ⟨g5, c5, e0, hO5⟩ := hd 6 (by simp)
                  rw [e0]
                  refine free_wp rfl rfl (by simp) (fun K hK => ?_)
                  go_step
                  exact hK _ _ ⟨hw8, Below.refl _ _, ⟨_, _, rfl, hO5⟩, fun b hb => by cases hb⟩
                rw [put_lit]; simp only [List.set_cons_succ, List.set_cons_zero]
                refine obq_late rfl (fun w8 hw8 hd => ?_) ?_
                · obtain ⟨g5, c5, e0, hO5⟩ := hd 6 (by simp)
                  rw [e0]
                  exact ⟨.bool false, fun w' => by go_simp, rfl, rfl⟩
                rw [put_lit]; simp only [List.set_cons_succ, List.set_cons_zero]
                refine obq_step rfl (by decide) (fun w8 hw8 _ => ?_) ?_
                · refine free_wp rfl rfl (by simp) (fun K hK => ?_)
                  go_step
                  exact hK _ _ ⟨hw8.call ((Below.refl _ _).alloc (Nat.le_refl _) _), (Below.refl _ _).alloc (Nat.le_refl _) _, ⟨_, rfl, hw8.size, new_row _ _⟩, fun b hb => by cases hb⟩
                rw [put_lit]; simp only [List.set_cons_succ, List.set_cons_zero]
                refine obq_end (fun w8 hw8 hψ _ _ => ?_)
                obtain ⟨g7, c7, e7, hO7⟩ := hψ 7 (by omega)
                have e8 : vs 8 = .bool false := hψ 8 (by omega)
                obtain ⟨r9, e9, hr9, hr9'⟩ := hψ 9 (by omega)
                simp only [Nat.zero_add, Nat.reduceAdd]
                rw [e7, e8, e9]
                generalize vs 0 = y0
                generalize vs 1 = y1
                generalize vs 2 = y2
                generalize vs 3 = y3
                generalize vs 4 = y4
                generalize vs 5 = y5
                generalize vs 6 = y6
                clear hψ e7 e8 e9
                have q5 := hw8.row q5
                have n79 : g7 ≠ r9 := fun e => by obtain ⟨_, _, _, ⟨cur, h, _⟩, _⟩ := hO7; rw [e, hr9'] at h; cases h
                have n75 : g7 ≠ w6.heap.size := fun e => by obtain ⟨_, _, _, ⟨cur, h, _⟩, _⟩ := hO7; rw [e, q5] at h; cases h
                have z65 : w6.heap.size < w7x.heap.size := Nat.lt_of_lt_of_le (Array.getElem?_eq_some_iff.1 q5x).1 (Nat.le_refl _)
                have n95 : r9 ≠ w6.heap.size := by omega
                have k9 := cells_of hr9'
                have k5 := cells_of q5
                have f9 : ∀ i, w8.frozen? ⟨r9, i, none⟩ = false := fun i => by simp [World.frozen?, hr9']
                have f5 : ∀ i, w8.frozen? ⟨w6.heap.size, i, none⟩ = false := fun i => by simp [World.frozen?, q5]
                have h9 : r9 < w8.heap.size := (Array.getElem?_eq_some_iff.1 hr9').1
                have h5 : w6.heap.size < w8.heap.size := (Array.getElem?_eq_some_iff.1 q5).1
                have k1 := cells_of (hw8.row q1x)
                have k2 := cells_of (hw8.row q2x)
                have h1x : w.heap.size < w8.heap.size := by omega
                have h2x : w.heap.size + 1 < w8.heap.size := by omega
                have m91 : ¬ r9 = w.heap.size := by omega
                have m92 : ¬ r9 = w.heap.size + 1 := by omega
                have m61 : ¬ w6.heap.size = w.heap.size := by omega
                have m62 : ¬ w6.heap.size = w.heap.size + 1 := by omega
                have HU := Lib.hid (And.intro hO7 (And.intro hw8 (And.intro hr9' q5)))
                clear hO7 hw8 hr9' q5 q5x q1x q2x
                go_wp2_with fail
                refine gen_call (fun W9 hW9 => ?_)
                change W9 = ((((((w8.setCell ⟨r9, 0, none⟩ _).setCell ⟨r9, 1, none⟩ _).setCell ⟨r9, 2, none⟩ _).setCell ⟨w6.heap.size, 0, none⟩ _).setCell ⟨w6.heap.size, 1, none⟩ _).setCell ⟨w6.heap.size, 2, none⟩ _) at hW9
                have hO7 : OwnL W9 w7x.heap.size g7 c7 (N * K) (rowT (solT false kind (tab offm ld Fm) N (tab off ldx Fm)) K) := by
                  have mA := fun i : Nat => (show (⟨r9, i, none⟩ : Addr).block ≠ g7 from Ne.symm n79)
                  have mB := fun i : Nat => (show (⟨w6.heap.size, i, none⟩ : Addr).block ≠ g7 from Ne.symm n75)
                  rw [hW9]; exact (((((HU.out.1.set (mA 0) _).set (mA 1) _).set (mA 2) _).set (mB 0) _).set (mB 1) _).set (mB 2) _
                have q5 : W9.heap[w6.heap.size]? = some (.cells #[.int .i64 N, .int .i64 K, .slice (some ⟨g7, 0, none⟩) (N * K : Nat) c7] 31 (0, 0)) := by
                  have mA := fun i : Nat => (show (⟨r9, i, none⟩ : Addr).block ≠ w6.heap.size from n95)
                  rw [hW9]; exact row_set (row_set (row_set (row_other (row_other (row_other HU.out.2.2.2 (mA 0) _) (mA 1) _) (mA 2) _) 0 _) 1 _) 2 _
                have hB9 : BL w6 W9 := by
                  have mA := fun i : Nat => (show w6.heap.size ≤ (⟨r9, i, none⟩ : Addr).block from Nat.le_trans (Nat.le_of_lt z65) hr9)
                  have mB := fun i : Nat => (show w6.heap.size ≤ (⟨w6.heap.size, i, none⟩ : Addr).block from Nat.le_refl _)
                  rw [hW9]; exact ((((((show BL w6 w8 from BL.call H7.out.2.2.1 HU.out.2.1).setCell (mA 0) _).setCell (mA 1) _).setCell (mA 2) _).setCell (mB 0) _).setCell (mB 1) _).setCell (mB 2) _
                clear hW9 k9 k5 f9 f5 h9 h5 k1 k2 h1x h2x
                refine (mspan_calls A nm cm offm N N ld W9 (by omega) HGD.out.1 m1 m2 m3 m4).mono ?_
                rintro e w10 ⟨rfl, hb10⟩
                have hB10 : BL w6 w10 := BL.call hB9 hb10
                have k2 := cells_of (hB10.row HS.out.2.2.2.2.2.2)
                go_wp2_with fail
                refine (mspan_calls A nm cm off N K ldx w10 (by omega) HGD.out.2 x1 x2 x3 x4).mono ?_
                rintro e w11 ⟨rfl, hb11⟩
                have hB11 : BL w6 w11 := BL.call hB10 hb11
                have q5 := (show BL w10 w11 from hb11).row ((show BL W9 w10 from hb10).row q5)
                have hO7 := (hO7.later hb10).later hb11
                clear k2 hb10 hb11 hB10 hB9
                have k1 := cells_of (hB11.row HS.out.2.2.2.1)
                have k2 := cells_of (hB11.row HS.out.2.2.2.2.1)
                have k3 := cells_of (hB11.row HS.out.2.2.2.2.2.1)
                have k4 := cells_of (hB11.row HS.out.2.2.2.2.2.2)
                go_wp2_with fail
                refine (spans_calls _ _ _ _ w11 true (decide_eq_true HSP.out).symm).mono ?_
                rintro e w11s ⟨rfl, hws⟩
                replace hws := hws.symm
                subst hws
                go_wp2_with fail
                refine gen_call (fun W7 hW7 => ?_)
                have hB7 : BL w6 W7 := by rw [hW7]; first | assumption | (repeat (first | exact Below.refl _ _ | refine Below.alloc ?_ (by first | (simp; done) | (simp; omega)) _))
                clear hW7
                refine (all_calls (some ⟨g1, 0, none⟩) A nm c1 nm cm Fm Fm W7 (HS.out.1.lat.later hB7) (HG.out.2.2.1.later (BL.call HS.out.2.2.1 hB7)) (by unfold maxLen; omega) (by unfold maxLen; omega) true ⟨fun _ => ⟨rfl, fun _ _ => rfl⟩, fun _ => rfl⟩).mono ?_
                rintro e w8 ⟨rfl, hb8⟩
                have hB8 : BL w6 w8 := BL.call hB7 hb8
                clear k1 k2 k3 k4
                have k2 := cells_of (hB8.row HS.out.2.2.2.2.1)
                have k4 := cells_of (hB8.row HS.out.2.2.2.2.2.2)
                go_wp2_with fail
                refine (all_calls (some ⟨g1, 0, none⟩) A nm c1 nm cm Fm Fm w8 (HS.out.2.1.lat.later hB8) (HG.out.2.2.1.later (BL.call HS.out.2.2.1 hB8)) (by unfold maxLen; omega) (by unfold maxLen; omega) true ⟨fun _ => ⟨rfl, fun _ _ => rfl⟩, fun _ => rfl⟩).mono ?_
                rintro e w9 ⟨rfl, hb9⟩
                go_wp2_with fail
                refine (awake_calls w9).mono ?_
                rintro e w10 ⟨rfl, hb10⟩
                go_wp2
                go_ret
                exact ⟨rfl, BL.call HS.out.2.2.1 (BL.call hB8 (BL.call hb9 hb10))⟩
              | true =>
                have e1 : rT = 2 := HT.out.1.symm.trans (tcode_meet HBAD.out ⟨rfl, rfl⟩ HMT.out)
                have e2 : Fm = Lx := (HT.out.2.1.symm.trans (tleft_err (by rw [HT.out.1, e1]; decide))).symm
                subst e1
                subst e2
                go_wp2_with fail
                refine gen_call (fun W7 hW7 => ?_)
                have hB7 : BL w6 W7 := by rw [hW7]; repeat (first | exact Below.refl _ _ | refine Below.alloc ?_ (by first | (simp; done) | (simp; omega)) _)
                have q5 : W7.heap[w6.heap.size]? = some (.cells #[.int .i64 0, .int .i64 0, .slice none 0 0] 31 (0, 0)) := by rw [hW7]; exact new_row _ _
                clear hW7
                refine (rgood_calls A nm cm offm N N ld W7 (by omega) m1 m2 m3 m4 true (decide_eq_true HGD.out.1).symm).mono ?_
                rintro e w7 ⟨rfl, hb7⟩
                have hb7' : BL w6 w7 := BL.call hB7 hb7
                have q5 := (show BL W7 w7 from hb7).row q5
                clear k1 k2 k3 k4
                have k4 := cells_of (hb7'.row HS.out.2.2.2.2.2.2)
                go_wp2_with fail
                refine (rgood_calls A nm cm off N K ldx w7 (by omega) x1 x2 x3 x4 true (decide_eq_true HGD.out.2).symm).mono ?_
                rintro e w7x ⟨rfl, hb7x⟩
                have hb7'' : BL w6 w7x := BL.call hb7' hb7x
                have q5 := (show BL w7 w7x from hb7x).row q5
                clear k4
                have k1 := cells_of (hb7''.row HS.out.2.2.2.1)
                have k2 := cells_of (hb7''.row HS.out.2.2.2.2.1)
                have k3 := cells_of (hb7''.row HS.out.2.2.2.2.2.1)
                have k4 := cells_of (hb7''.row HS.out.2.2.2.2.2.2)
                have q5x := q5
                have q1x := hb7''.row HS.out.2.2.2.2.2.1
                have q2x := hb7''.row HS.out.2.2.2.2.2.2
                have hA7 := HG.out.2.2.1.later (BL.call HS.out.2.2.1 hb7'')
                have hX7 := HG.out.2.2.1.later (BL.call HS.out.2.2.1 hb7'')
                have H7 := Lib.hid (And.intro hA7 (And.intro hX7 (And.intro hb7'' (And.intro hb7 hb7x))))
                have z7 := hb7x.size
                have z7' := hb7.size
                clear hA7 hX7 hb7'' hb7' hb7 hb7x
                go_wp2
                clear k1 k2 k3 k4
                refine wp_region_late 8 10 (BL w7x) (fun i => match i with | 2 => [1] | 4 => [3] | 5 => [0, 2, 4] | 6 => [5] | 7 => [6] | 8 => [6] | _ => [])
                  (fun i v w' => match i with
                    | 0 => v = .int .i64 kind
                    | 1 => v = matA A nm cm offm N N ld
                    | 2 => ∃ g, v = .agg #[.int .i64 N, .int .i64 N, .slice (some ⟨g, 0, none⟩) (N * N : Nat) (N * N : Nat)] ∧ OwnL w' w7x.heap.size g (N * N) (N * N) (rowT (tab offm ld Fm) N)
                    | 3 => v = matA A nm cm off N K ldx
                    | 4 => ∃ g, v = .agg #[.int .i64 N, .int .i64 K, .slice (some ⟨g, 0, none⟩) (N * K : Nat) (N * K : Nat)] ∧ OwnL w' w7x.heap.size g (N * K) (N * K) (rowT (tab off ldx Fm) K)
                    | 5 => ∃ g c', v = .tuple #[.agg #[.int .i64 N, .int .i64 K, .slice (some ⟨g, 0, none⟩) (N * K : Nat) c'], .bool true] ∧ OwnL w' w7x.heap.size g c' (N * K) (rowT (solT true kind (tab offm ld Fm) N (tab off ldx Fm)) K)
                    | 6 => ∃ g c', v = .tuple #[.agg #[.int .i64 N, .int .i64 K, .slice (some ⟨g, 0, none⟩) (N * K : Nat) c'], .bool true] ∧ OwnL w' w7x.heap.size g c' (N * K) (rowT (solT true kind (tab offm ld Fm) N (tab off ldx Fm)) K)
                    | 7 => ∃ g c', v = .agg #[.int .i64 N, .int .i64 K, .slice (some ⟨g, 0, none⟩) (N * K : Nat) c'] ∧ OwnL w' w7x.heap.size g c' (N * K) (rowT (solT true kind (tab offm ld Fm) N (tab off ldx Fm)) K)
                    | 8 => v = .bool true
                    | _ => ∃ r, v = .pointer (some ⟨r, 0, none⟩) ∧ w7x.heap.size ≤ r ∧ w'.heap[r]? = some (.cells #[.int .i64 0, .int .i64 0, .slice none 0 0] 31 (0, 0)))
                  (fun _ _ => []) (by kernel_rfl) (by kernel_rfl) (BL.refl _).drew ?_ (fun c dst v a w h => by cases dst <;> exact h) ?_
                · intro i v w' w'' h hb
                  match i, h with
                  | 0, h => exact h
                  | 1, h => exact h
                  | 2, ⟨g, h1, h2⟩ => exact ⟨g, h1, h2.later hb⟩
                  | 3, h => exact h
                  | 4, ⟨g, h1, h2⟩ => exact ⟨g, h1, h2.later hb⟩
                  | 5, ⟨g, c, h1, h2⟩ => exact ⟨g, c, h1, h2.later hb⟩
                  | 6, ⟨g, c, h1, h2⟩ => exact ⟨g, c, h1, h2.later hb⟩
                  | 7, ⟨g, c, h1, h2⟩ => exact ⟨g, c, h1, h2.later hb⟩
                  | 8, h => exact h
                  | (i + 9), ⟨r, h1, h2, h3⟩ => exact ⟨r, h1, h2, (show BL w' w'' from hb).row h3⟩
                intro vs
                simp only [List.take_succ_cons, List.take_zero, List.drop_succ_cons, List.drop_zero]
                refine obq_step rfl (by decide) (fun w8 hw8 _ => ?_) ?_
                · refine free_wp rfl rfl (by simp) (fun K hK => ?_)
                  go_step
                  exact hK _ _ ⟨hw8, Below.refl _ _, rfl, fun b hb => by cases hb⟩
                rw [put_lit]; simp only [List.set_cons_succ, List.set_cons_zero]
                refine obq_step rfl (by decide) (fun w8 hw8 _ => ?_) ?_
                · refine free_wp rfl rfl (by simp) (fun K hK => ?_)
                  have k1 := cells_of (hw8.row q1x)
                  go_step
                  exact hK _ _ ⟨hw8, Below.refl _ _, rfl, fun b hb => by cases hb⟩
                rw [put_lit]; simp only [List.set_cons_succ, List.set_cons_zero]
                refine obq_step rfl (by decide) (fun w8 hw8 hd => ?_) ?_
                · have e0 := hd 1 (by simp)
                  simp only at e0
                  rw [e0]
                  unfold matA
                  go_simp
                  refine (of_calls3 A nm cm offm ld N N Fm w8 (by omega) HGD.out.1 m1 m4 (by omega) (by omega) (H7.out.1.later hw8)).mono ?_
                  rintro e w9 ⟨g, rfl, hO, hb9⟩
                  exact ⟨_, rfl, hw8.call hb9, hb9, ⟨g, rfl, hO.base hw8.size⟩, fun b hb => by cases hb⟩
                rw [put_lit]; simp only [List.set_cons_succ, List.set_cons_zero]
                refine obq_step rfl (by decide) (fun w8 hw8 _ => ?_) ?_
                · refine free_wp rfl rfl (by simp) (fun K hK => ?_)
                  have k1 := cells_of (hw8.row q2x)
                  go_step
                  exact hK _ _ ⟨hw8, Below.refl _ _, rfl, fun b hb => by cases hb⟩
                rw [put_lit]; simp only [List.set_cons_succ, List.set_cons_zero]
                refine obq_step rfl (by decide) (fun w8 hw8 hd => ?_) ?_
                · have e0 := hd 3 (by simp)
                  simp only at e0
                  rw [e0]
                  unfold matA
                  go_simp
                  refine (of_calls3 A nm cm off ldx N K Fm w8 (by omega) HGD.out.2 x1 x4 (by omega) (by omega) (H7.out.2.1.later hw8)).mono ?_
                  rintro e w9 ⟨g, rfl, hO, hb9⟩
                  exact ⟨_, rfl, hw8.call hb9, hb9, ⟨g, rfl, hO.base hw8.size⟩, fun b hb => by cases hb⟩
                rw [put_lit]; simp only [List.set_cons_succ, List.set_cons_zero]
                refine obq_step rfl (by decide) (fun w8 hw8 hd => ?_) ?_
                · have e0 := hd 0 (by simp)
                  obtain ⟨ga, ea, hOa⟩ := hd 2 (by simp)
                  obtain ⟨gb, eb, hOb⟩ := hd 4 (by simp)
                  simp only at e0
                  rw [e0, ea, eb]
                  go_simp
                  refine (solve14_calls kind HK.out.1 ga 0 (N * N) (N * N) N (tab offm ld Fm) gb 0 (N * K) K (tab off ldx Fm) w8 (by omega) (by omega) (Nat.le_refl _) (Nat.le_trans (Nat.mul_le_mul (show N ≤ 64 by omega) (show N ≤ 64 by omega)) (by omega)) hOa.2.2.2.2 hOb.2.2.2.2 true (by have hk := HK.out.2; simpa using hk)).mono ?_
                  rintro e w9 ⟨g, c', rfl, hO, hb9⟩
                  exact ⟨_, rfl, hw8.call hb9, hb9, ⟨g, c', rfl, hO.base hw8.size⟩, fun b hb => by cases hb⟩
                rw [put_lit]; simp only [List.set_cons_succ, List.set_cons_zero]
                refine obq_step rfl (by decide) (fun w8 hw8 hd => ?_) ?_
                · obtain ⟨g5, c5, e0, hO5⟩ := hd 5 (by simp)
                  rw [e0]
                  refine free_wp rfl rfl (by simp) (fun K hK => ?_)
                  go_step
                  exact hK _ _ ⟨hw8, Below.refl _ _, ⟨_, _, rfl, hO5⟩, fun b hb => by cases hb⟩
                rw [put_lit]; simp only [List.set_cons_succ, List.set_cons_zero]
                refine obq_step rfl (by decide) (fun w8 hw8 hd => ?_) ?_
                · obtain ⟨g5, c5, e0, hO5⟩ := hd 6 (by simp)
                  rw [e0]
                  refine free_wp rfl rfl (by simp) (fun K hK => ?_)
                  go_step
                  exact hK _ _ ⟨hw8, Below.refl _ _, ⟨_, _, rfl, hO5⟩, fun b hb => by cases hb⟩
                rw [put_lit]; simp only [List.set_cons_succ, List.set_cons_zero]
                refine obq_late rfl (fun w8 hw8 hd => ?_) ?_
                · obtain ⟨g5, c5, e0, hO5⟩ := hd 6 (by simp)
                  rw [e0]
                  exact ⟨.bool true, fun w' => by go_simp, rfl, rfl⟩
                rw [put_lit]; simp only [List.set_cons_succ, List.set_cons_zero]
                refine obq_step rfl (by decide) (fun w8 hw8 _ => ?_) ?_
                · refine free_wp rfl rfl (by simp) (fun K hK => ?_)
                  go_step
                  exact hK _ _ ⟨hw8.call ((Below.refl _ _).alloc (Nat.le_refl _) _), (Below.refl _ _).alloc (Nat.le_refl _) _, ⟨_, rfl, hw8.size, new_row _ _⟩, fun b hb => by cases hb⟩
                rw [put_lit]; simp only [List.set_cons_succ, List.set_cons_zero]
                refine obq_end (fun w8 hw8 hψ _ _ => ?_)
                obtain ⟨g7, c7, e7, hO7⟩ := hψ 7 (by omega)
                have e8 : vs 8 = .bool true := hψ 8 (by omega)
                obtain ⟨r9, e9, hr9, hr9'⟩ := hψ 9 (by omega)
                simp only [Nat.zero_add, Nat.reduceAdd]
                rw [e7, e8, e9]
                generalize vs 0 = y0
                generalize vs 1 = y1
                generalize vs 2 = y2
                generalize vs 3 = y3
                generalize vs 4 = y4
                generalize vs 5 = y5
                generalize vs 6 = y6
                clear hψ e7 e8 e9
                have q5 := hw8.row q5
                have n79 : g7 ≠ r9 := fun e => by obtain ⟨_, _, _, ⟨cur, h, _⟩, _⟩ := hO7; rw [e, hr9'] at h; cases h
                have n75 : g7 ≠ w6.heap.size := fun e => by obtain ⟨_, _, _, ⟨cur, h, _⟩, _⟩ := hO7; rw [e, q5] at h; cases h
                have z65 : w6.heap.size < w7x.heap.size := Nat.lt_of_lt_of_le (Array.getElem?_eq_some_iff.1 q5x).1 (Nat.le_refl _)
                have n95 : r9 ≠ w6.heap.size := by omega
                have k9 := cells_of hr9'
                have k5 := cells_of q5
                have f9 : ∀ i, w8.frozen? ⟨r9, i, none⟩ = false := fun i => by simp [World.frozen?, hr9']
                have f5 : ∀ i, w8.frozen? ⟨w6.heap.size, i, none⟩ = false := fun i => by simp [World.frozen?, q5]
                have h9 : r9 < w8.heap.size := (Array.getElem?_eq_some_iff.1 hr9').1
                have h5 : w6.heap.size < w8.heap.size := (Array.getElem?_eq_some_iff.1 q5).1
                have k1 := cells_of (hw8.row q1x)
                have k2 := cells_of (hw8.row q2x)
                have h1x : w.heap.size < w8.heap.size := by omega
                have h2x : w.heap.size + 1 < w8.heap.size := by omega
                have m91 : ¬ r9 = w.heap.size := by omega
                have m92 : ¬ r9 = w.heap.size + 1 := by omega
                have m61 : ¬ w6.heap.size = w.heap.size := by omega
                have m62 : ¬ w6.heap.size = w.heap.size + 1 := by omega
                have HU := Lib.hid (And.intro hO7 (And.intro hw8 (And.intro hr9' q5)))
                clear hO7 hw8 hr9' q5 q5x q1x q2x
                go_wp2_with fail
                refine gen_call (fun W9 hW9 => ?_)
                change W9 = ((((((w8.setCell ⟨r9, 0, none⟩ _).setCell ⟨r9, 1, none⟩ _).setCell ⟨r9, 2, none⟩ _).setCell ⟨w6.heap.size, 0, none⟩ _).setCell ⟨w6.heap.size, 1, none⟩ _).setCell ⟨w6.heap.size, 2, none⟩ _) at hW9
                have hO7 : OwnL W9 w7x.heap.size g7 c7 (N * K) (rowT (solT true kind (tab offm ld Fm) N (tab off ldx Fm)) K) := by
                  have mA := fun i : Nat => (show (⟨r9, i, none⟩ : Addr).block ≠ g7 from Ne.symm n79)
                  have mB := fun i : Nat => (show (⟨w6.heap.size, i, none⟩ : Addr).block ≠ g7 from Ne.symm n75)
                  rw [hW9]; exact (((((HU.out.1.set (mA 0) _).set (mA 1) _).set (mA 2) _).set (mB 0) _).set (mB 1) _).set (mB 2) _
                have q5 : W9.heap[w6.heap.size]? = some (.cells #[.int .i64 N, .int .i64 K, .slice (some ⟨g7, 0, none⟩) (N * K : Nat) c7] 31 (0, 0)) := by
                  have mA := fun i : Nat => (show (⟨r9, i, none⟩ : Addr).block ≠ w6.heap.size from n95)
                  rw [hW9]; exact row_set (row_set (row_set (row_other (row_other (row_other HU.out.2.2.2 (mA 0) _) (mA 1) _) (mA 2) _) 0 _) 1 _) 2 _
                have hB9 : BL w6 W9 := by
                  have mA := fun i : Nat => (show w6.heap.size ≤ (⟨r9, i, none⟩ : Addr).block from Nat.le_trans (Nat.le_of_lt z65) hr9)
                  have mB := fun i : Nat => (show w6.heap.size ≤ (⟨w6.heap.size, i, none⟩ : Addr).block from Nat.le_refl _)
                  rw [hW9]; exact ((((((show BL w6 w8 from BL.call H7.out.2.2.1 HU.out.2.1).setCell (mA 0) _).setCell (mA 1) _).setCell (mA 2) _).setCell (mB 0) _).setCell (mB 1) _).setCell (mB 2) _
                clear hW9 k9 k5 f9 f5 h9 h5 k1 k2 h1x h2x
                refine (mspan_calls A nm cm offm N N ld W9 (by omega) HGD.out.1 m1 m2 m3 m4).mono ?_
                rintro e w10 ⟨rfl, hb10⟩
                have hB10 : BL w6 w10 := BL.call hB9 hb10
                have k2 := cells_of (hB10.row HS.out.2.2.2.2.2.2)
                go_wp2_with fail
                refine (mspan_calls A nm cm off N K ldx w10 (by omega) HGD.out.2 x1 x2 x3 x4).mono ?_
                rintro e w11 ⟨rfl, hb11⟩
                have hB11 : BL w6 w11 := BL.call hB10 hb11
                have q5 := (show BL w10 w11 from hb11).row ((show BL W9 w10 from hb10).row q5)
                have hO7 := (hO7.later hb10).later hb11
                clear k2 hb10 hb11 hB10 hB9
                have k1 := cells_of (hB11.row HS.out.2.2.2.1)
                have k2 := cells_of (hB11.row HS.out.2.2.2.2.1)
                have k3 := cells_of (hB11.row HS.out.2.2.2.2.2.1)
                have k4 := cells_of (hB11.row HS.out.2.2.2.2.2.2)
                go_wp2_with fail
                refine (spans_calls _ _ _ _ w11 true (decide_eq_true HSP.out).symm).mono ?_
                rintro e w11s ⟨rfl, hws⟩
                replace hws := hws.symm
                subst hws
                go_wp2_with fail
                refine gen_call (fun W7 hW7 => ?_)
                have hB7 : BL w6 W7 := by rw [hW7]; first | assumption | (repeat (first | exact Below.refl _ _ | refine Below.alloc ?_ (by first | (simp; done) | (simp; omega)) _))
                clear hW7
                refine (all_calls (some ⟨g1, 0, none⟩) A nm c1 nm cm Fm Fm W7 (HS.out.1.lat.later hB7) (HG.out.2.2.1.later (BL.call HS.out.2.2.1 hB7)) (by unfold maxLen; omega) (by unfold maxLen; omega) true ⟨fun _ => ⟨rfl, fun _ _ => rfl⟩, fun _ => rfl⟩).mono ?_
                rintro e w8 ⟨rfl, hb8⟩
                have hB8 : BL w6 w8 := BL.call hB7 hb8
                clear k1 k2 k3 k4
                have k2 := cells_of (hB8.row HS.out.2.2.2.2.1)
                have k4 := cells_of (hB8.row HS.out.2.2.2.2.2.2)
                go_wp2_with fail
                refine (all_calls (some ⟨g1, 0, none⟩) A nm c1 nm cm Fm Fm w8 (HS.out.2.1.lat.later hB8) (HG.out.2.2.1.later (BL.call HS.out.2.2.1 hB8)) (by unfold maxLen; omega) (by unfold maxLen; omega) true ⟨fun _ => ⟨rfl, fun _ _ => rfl⟩, fun _ => rfl⟩).mono ?_
                rintro e w9 ⟨rfl, hb9⟩
                go_wp2_with fail
                refine (awake_calls w9).mono ?_
                rintro e w10 ⟨rfl, hb10⟩
                go_wp2
                go_ret
                exact ⟨rfl, BL.call HS.out.2.2.1 (BL.call hB8 (BL.call hb9 hb10))⟩
            · have HNM := Lib.hid hmt
              have HSP := Lib.hid (fun h => hmt (hspm.1 h) : ¬ (spanA offm N N ≤ spanB offm N N ld ∧ spanA off N K ≤ spanB off N K ldx ∧ spanA offm N N ≤ spanB off N K ldx ∧ spanA off N K ≤ spanB offm N N ld))
              clear hspm hmt
              cases r with
              | false =>
                have e1 : rT = 4 := HT.out.1.symm.trans (tcode_zero HBAD.out ⟨rfl, rfl⟩ HNM.out (Classical.byContradiction fun h => by have := HK.out.2.2 h; cases this))
                have e2 : Fm = Lx := (HT.out.2.1.symm.trans (tleft_err (by rw [HT.out.1, e1]; decide))).symm
                subst e1
                subst e2
                go_wp2_with fail
                refine gen_call (fun W7 hW7 => ?_)
                have hB7 : BL w6 W7 := by rw [hW7]; repeat (first | exact Below.refl _ _ | refine Below.alloc ?_ (by first | (simp; done) | (simp; omega)) _)
                have q5 : W7.heap[w6.heap.size]? = some (.cells #[.int .i64 0, .int .i64 0, .slice none 0 0] 31 (0, 0)) := by rw [hW7]; exact new_row _ _
                clear hW7
                refine (rgood_calls A nm cm offm N N ld W7 (by omega) m1 m2 m3 m4 true (decide_eq_true HGD.out.1).symm).mono ?_
                rintro e w7 ⟨rfl, hb7⟩
                have hb7' : BL w6 w7 := BL.call hB7 hb7
                have q5 := (show BL W7 w7 from hb7).row q5
                clear k1 k2 k3 k4
                have k4 := cells_of (hb7'.row HS.out.2.2.2.2.2.2)
                go_wp2_with fail
                refine (rgood_calls A nm cm off N K ldx w7 (by omega) x1 x2 x3 x4 true (decide_eq_true HGD.out.2).symm).mono ?_
                rintro e w7x ⟨rfl, hb7x⟩
                have hb7'' : BL w6 w7x := BL.call hb7' hb7x
                have q5 := (show BL w7 w7x from hb7x).row q5
                clear k4
                have k1 := cells_of (hb7''.row HS.out.2.2.2.1)
                have k2 := cells_of (hb7''.row HS.out.2.2.2.2.1)
                have k3 := cells_of (hb7''.row HS.out.2.2.2.2.2.1)
                have k4 := cells_of (hb7''.row HS.out.2.2.2.2.2.2)
                have q5x := q5
                have q1x := hb7''.row HS.out.2.2.2.2.2.1
                have q2x := hb7''.row HS.out.2.2.2.2.2.2
                have hA7 := HG.out.2.2.1.later (BL.call HS.out.2.2.1 hb7'')
                have hX7 := HG.out.2.2.1.later (BL.call HS.out.2.2.1 hb7'')
                have H7 := Lib.hid (And.intro hA7 (And.intro hX7 (And.intro hb7'' (And.intro hb7 hb7x))))
                have z7 := hb7x.size
                have z7' := hb7.size
                clear hA7 hX7 hb7'' hb7' hb7 hb7x
                go_wp2
                clear k1 k2 k3 k4
                refine wp_region_late 8 10 (BL w7x) (fun i => match i with | 2 => [1] | 4 => [3] | 5 => [0, 2, 4] | 6 => [5] | 7 => [6] | 8 => [6] | _ => [])
                  (fun i v w' => match i with
                    | 0 => v = .int .i64 kind
                    | 1 => v = matA A nm cm offm N N ld
                    | 2 => ∃ g, v = .agg #[.int .i64 N, .int .i64 N, .slice (some ⟨g, 0, none⟩) (N * N : Nat) (N * N : Nat)] ∧ OwnL w' w7x.heap.size g (N * N) (N * N) (rowT (tab offm ld Fm) N)
                    | 3 => v = matA A nm cm off N K ldx
                    | 4 => ∃ g, v = .agg #[.int .i64 N, .int .i64 K, .slice (some ⟨g, 0, none⟩) (N * K : Nat) (N * K : Nat)] ∧ OwnL w' w7x.heap.size g (N * K) (N * K) (rowT (tab off ldx Fm) K)
                    | 5 => ∃ g c', v = .tuple #[.agg #[.int .i64 N, .int .i64 K, .slice (some ⟨g, 0, none⟩) (N * K : Nat) c'], .bool false] ∧ OwnL w' w7x.heap.size g c' (N * K) (rowT (solT false kind (tab offm ld Fm) N (tab off ldx Fm)) K)
                    | 6 => ∃ g c', v = .tuple #[.agg #[.int .i64 N, .int .i64 K, .slice (some ⟨g, 0, none⟩) (N * K : Nat) c'], .bool false] ∧ OwnL w' w7x.heap.size g c' (N * K) (rowT (solT false kind (tab offm ld Fm) N (tab off ldx Fm)) K)
                    | 7 => ∃ g c', v = .agg #[.int .i64 N, .int .i64 K, .slice (some ⟨g, 0, none⟩) (N * K : Nat) c'] ∧ OwnL w' w7x.heap.size g c' (N * K) (rowT (solT false kind (tab offm ld Fm) N (tab off ldx Fm)) K)
                    | 8 => v = .bool false
                    | _ => ∃ r, v = .pointer (some ⟨r, 0, none⟩) ∧ w7x.heap.size ≤ r ∧ w'.heap[r]? = some (.cells #[.int .i64 0, .int .i64 0, .slice none 0 0] 31 (0, 0)))
                  (fun _ _ => []) (by kernel_rfl) (by kernel_rfl) (BL.refl _).drew ?_ (fun c dst v a w h => by cases dst <;> exact h) ?_
                · intro i v w' w'' h hb
                  match i, h with
                  | 0, h => exact h
                  | 1, h => exact h
                  | 2, ⟨g, h1, h2⟩ => exact ⟨g, h1, h2.later hb⟩
                  | 3, h => exact h
                  | 4, ⟨g, h1, h2⟩ => exact ⟨g, h1, h2.later hb⟩
                  | 5, ⟨g, c, h1, h2⟩ => exact ⟨g, c, h1, h2.later hb⟩
                  | 6, ⟨g, c, h1, h2⟩ => exact ⟨g, c, h1, h2.later hb⟩
                  | 7, ⟨g, c, h1, h2⟩ => exact ⟨g, c, h1, h2.later hb⟩
                  | 8, h => exact h
                  | (i + 9), ⟨r, h1, h2, h3⟩ => exact ⟨r, h1, h2, (show BL w' w'' from hb).row h3⟩
                intro vs
                simp only [List.take_succ_cons, List.take_zero, List.drop_succ_cons, List.drop_zero]
                refine obq_step rfl (by decide) (fun w8 hw8 _ => ?_) ?_
                · refine free_wp rfl rfl (by simp) (fun K hK => ?_)
                  go_step
                  exact hK _ _ ⟨hw8, Below.refl _ _, rfl, fun b hb => by cases hb⟩
                rw [put_lit]; simp only [List.set_cons_succ, List.set_cons_zero]
                refine obq_step rfl (by decide) (fun w8 hw8 _ => ?_) ?_
                · refine free_wp rfl rfl (by simp) (fun K hK => ?_)
                  have k1 := cells_of (hw8.row q1x)
                  go_step
                  exact hK _ _ ⟨hw8, Below.refl _ _, rfl, fun b hb => by cases hb⟩
                rw [put_lit]; simp only [List.set_cons_succ, List.set_cons_zero]
                refine obq_step rfl (by decide) (fun w8 hw8 hd => ?_) ?_
                · have e0 := hd 1 (by simp)
                  simp only at e0
                  rw [e0]
                  unfold matA
                  go_simp
                  refine (of_calls3 A nm cm offm ld N N Fm w8 (by omega) HGD.out.1 m1 m4 (by omega) (by omega) (H7.out.1.later hw8)).mono ?_
                  rintro e w9 ⟨g, rfl, hO, hb9⟩
                  exact ⟨_, rfl, hw8.call hb9, hb9, ⟨g, rfl, hO.base hw8.size⟩, fun b hb => by cases hb⟩
                rw [put_lit]; simp only [List.set_cons_succ, List.set_cons_zero]
                refine obq_step rfl (by decide) (fun w8 hw8 _ => ?_) ?_
                · refine free_wp rfl rfl (by simp) (fun K hK => ?_)
                  have k1 := cells_of (hw8.row q2x)
                  go_step
                  exact hK _ _ ⟨hw8, Below.refl _ _, rfl, fun b hb => by cases hb⟩
                rw [put_lit]; simp only [List.set_cons_succ, List.set_cons_zero]
                refine obq_step rfl (by decide) (fun w8 hw8 hd => ?_) ?_
                · have e0 := hd 3 (by simp)
                  simp only at e0
                  rw [e0]
                  unfold matA
                  go_simp
                  refine (of_calls3 A nm cm off ldx N K Fm w8 (by omega) HGD.out.2 x1 x4 (by omega) (by omega) (H7.out.2.1.later hw8)).mono ?_
                  rintro e w9 ⟨g, rfl, hO, hb9⟩
                  exact ⟨_, rfl, hw8.call hb9, hb9, ⟨g, rfl, hO.base hw8.size⟩, fun b hb => by cases hb⟩
                rw [put_lit]; simp only [List.set_cons_succ, List.set_cons_zero]
                refine obq_step rfl (by decide) (fun w8 hw8 hd => ?_) ?_
                · have e0 := hd 0 (by simp)
                  obtain ⟨ga, ea, hOa⟩ := hd 2 (by simp)
                  obtain ⟨gb, eb, hOb⟩ := hd 4 (by simp)
                  simp only at e0
                  rw [e0, ea, eb]
                  go_simp
                  refine (solve14_calls kind HK.out.1 ga 0 (N * N) (N * N) N (tab offm ld Fm) gb 0 (N * K) K (tab off ldx Fm) w8 (by omega) (by omega) (Nat.le_refl _) (Nat.le_trans (Nat.mul_le_mul (show N ≤ 64 by omega) (show N ≤ 64 by omega)) (by omega)) hOa.2.2.2.2 hOb.2.2.2.2 false (by have hk := HK.out.2; simpa using hk)).mono ?_
                  rintro e w9 ⟨g, c', rfl, hO, hb9⟩
                  exact ⟨_, rfl, hw8.call hb9, hb9, ⟨g, c', rfl, hO.base hw8.size⟩, fun b hb => by cases hb⟩
                rw [put_lit]; simp only [List.set_cons_succ, List.set_cons_zero]
                refine obq_step rfl (by decide) (fun w8 hw8 hd => ?_) ?_
                · obtain ⟨g5, c5, e0, hO5⟩ := hd 5 (by simp)
                  rw [e0]
                  refine free_wp rfl rfl (by simp) (fun K hK => ?_)
                  go_step
                  exact hK _ _ ⟨hw8, Below.refl _ _, ⟨_, _, rfl, hO5⟩, fun b hb => by cases hb⟩
                rw [put_lit]; simp only [List.set_cons_succ, List.set_cons_zero]
                refine obq_step rfl (by decide) (fun w8 hw8 hd => ?_) ?_
                · obtain ⟨g5, c5, e0, hO5⟩ := hd 6 (by simp)
                  rw [e0]
                  refine free_wp rfl rfl (by simp) (fun K hK => ?_)
                  go_step
                  exact hK _ _ ⟨hw8, Below.refl _ _, ⟨_, _, rfl, hO5⟩, fun b hb => by cases hb⟩
                rw [put_lit]; simp only [List.set_cons_succ, List.set_cons_zero]
                refine obq_late rfl (fun w8 hw8 hd => ?_) ?_
                · obtain ⟨g5, c5, e0, hO5⟩ := hd 6 (by simp)
                  rw [e0]
                  exact ⟨.bool false, fun w' => by go_simp, rfl, rfl⟩
                rw [put_lit]; simp only [List.set_cons_succ, List.set_cons_zero]
                refine obq_step rfl (by decide) (fun w8 hw8 _ => ?_) ?_
                · refine free_wp rfl rfl (by simp) (fun K hK => ?_)
                  go_step
                  exact hK _ _ ⟨hw8.call ((Below.refl _ _).alloc (Nat.le_refl _) _), (Below.refl _ _).alloc (Nat.le_refl _) _, ⟨_, rfl, hw8.size, new_row _ _⟩, fun b hb => by cases hb⟩
                rw [put_lit]; simp only [List.set_cons_succ, List.set_cons_zero]
                refine obq_end (fun w8 hw8 hψ _ _ => ?_)
                obtain ⟨g7, c7, e7, hO7⟩ := hψ 7 (by omega)
                have e8 : vs 8 = .bool false := hψ 8 (by omega)
                obtain ⟨r9, e9, hr9, hr9'⟩ := hψ 9 (by omega)
                simp only [Nat.zero_add, Nat.reduceAdd]
                rw [e7, e8, e9]
                generalize vs 0 = y0
                generalize vs 1 = y1
                generalize vs 2 = y2
                generalize vs 3 = y3
                generalize vs 4 = y4
                generalize vs 5 = y5
                generalize vs 6 = y6
                clear hψ e7 e8 e9
                have q5 := hw8.row q5
                have n79 : g7 ≠ r9 := fun e => by obtain ⟨_, _, _, ⟨cur, h, _⟩, _⟩ := hO7; rw [e, hr9'] at h; cases h
                have n75 : g7 ≠ w6.heap.size := fun e => by obtain ⟨_, _, _, ⟨cur, h, _⟩, _⟩ := hO7; rw [e, q5] at h; cases h
                have z65 : w6.heap.size < w7x.heap.size := Nat.lt_of_lt_of_le (Array.getElem?_eq_some_iff.1 q5x).1 (Nat.le_refl _)
                have n95 : r9 ≠ w6.heap.size := by omega
                have k9 := cells_of hr9'
                have k5 := cells_of q5
                have f9 : ∀ i, w8.frozen? ⟨r9, i, none⟩ = false := fun i => by simp [World.frozen?, hr9']
                have f5 : ∀ i, w8.frozen? ⟨w6.heap.size, i, none⟩ = false := fun i => by simp [World.frozen?, q5]
                have h9 : r9 < w8.heap.size := (Array.getElem?_eq_some_iff.1 hr9').1
                have h5 : w6.heap.size < w8.heap.size := (Array.getElem?_eq_some_iff.1 q5).1
                have k1 := cells_of (hw8.row q1x)
                have k2 := cells_of (hw8.row q2x)
                have h1x : w.heap.size < w8.heap.size := by omega
                have h2x : w.heap.size + 1 < w8.heap.size := by omega
                have m91 : ¬ r9 = w.heap.size := by omega
                have m92 : ¬ r9 = w.heap.size + 1 := by omega
                have m61 : ¬ w6.heap.size = w.heap.size := by omega
                have m62 : ¬ w6.heap.size = w.heap.size + 1 := by omega
                have HU := Lib.hid (And.intro hO7 (And.intro hw8 (And.intro hr9' q5)))
                clear hO7 hw8 hr9' q5 q5x q1x q2x
                go_wp2_with fail
                refine gen_call (fun W9 hW9 => ?_)
                change W9 = ((((((w8.setCell ⟨r9, 0, none⟩ _).setCell ⟨r9, 1, none⟩ _).setCell ⟨r9, 2, none⟩ _).setCell ⟨w6.heap.size, 0, none⟩ _).setCell ⟨w6.heap.size, 1, none⟩ _).setCell ⟨w6.heap.size, 2, none⟩ _) at hW9
                have hO7 : OwnL W9 w7x.heap.size g7 c7 (N * K) (rowT (solT false kind (tab offm ld Fm) N (tab off ldx Fm)) K) := by
                  have mA := fun i : Nat => (show (⟨r9, i, none⟩ : Addr).block ≠ g7 from Ne.symm n79)
                  have mB := fun i : Nat => (show (⟨w6.heap.size, i, none⟩ : Addr).block ≠ g7 from Ne.symm n75)
                  rw [hW9]; exact (((((HU.out.1.set (mA 0) _).set (mA 1) _).set (mA 2) _).set (mB 0) _).set (mB 1) _).set (mB 2) _
                have q5 : W9.heap[w6.heap.size]? = some (.cells #[.int .i64 N, .int .i64 K, .slice (some ⟨g7, 0, none⟩) (N * K : Nat) c7] 31 (0, 0)) := by
                  have mA := fun i : Nat => (show (⟨r9, i, none⟩ : Addr).block ≠ w6.heap.size from n95)
                  rw [hW9]; exact row_set (row_set (row_set (row_other (row_other (row_other HU.out.2.2.2 (mA 0) _) (mA 1) _) (mA 2) _) 0 _) 1 _) 2 _
                have hB9 : BL w6 W9 := by
                  have mA := fun i : Nat => (show w6.heap.size ≤ (⟨r9, i, none⟩ : Addr).block from Nat.le_trans (Nat.le_of_lt z65) hr9)
                  have mB := fun i : Nat => (show w6.heap.size ≤ (⟨w6.heap.size, i, none⟩ : Addr).block from Nat.le_refl _)
                  rw [hW9]; exact ((((((show BL w6 w8 from BL.call H7.out.2.2.1 HU.out.2.1).setCell (mA 0) _).setCell (mA 1) _).setCell (mA 2) _).setCell (mB 0) _).setCell (mB 1) _).setCell (mB 2) _
                clear hW9 k9 k5 f9 f5 h9 h5 k1 k2 h1x h2x
                refine (mspan_calls A nm cm offm N N ld W9 (by omega) HGD.out.1 m1 m2 m3 m4).mono ?_
                rintro e w10 ⟨rfl, hb10⟩
                have hB10 : BL w6 w10 := BL.call hB9 hb10
                have k2 := cells_of (hB10.row HS.out.2.2.2.2.2.2)
                go_wp2_with fail
                refine (mspan_calls A nm cm off N K ldx w10 (by omega) HGD.out.2 x1 x2 x3 x4).mono ?_
                rintro e w11 ⟨rfl, hb11⟩
                have hB11 : BL w6 w11 := BL.call hB10 hb11
                have q5 := (show BL w10 w11 from hb11).row ((show BL W9 w10 from hb10).row q5)
                have hO7 := (hO7.later hb10).later hb11
                clear k2 hb10 hb11 hB10 hB9
                have k1 := cells_of (hB11.row HS.out.2.2.2.1)
                have k2 := cells_of (hB11.row HS.out.2.2.2.2.1)
                have k3 := cells_of (hB11.row HS.out.2.2.2.2.2.1)
                have k4 := cells_of (hB11.row HS.out.2.2.2.2.2.2)
                go_wp2_with fail
                refine (spans_calls _ _ _ _ w11 false (decide_eq_false HSP.out).symm).mono ?_
                rintro e w11s ⟨rfl, hws⟩
                replace hws := hws.symm
                subst hws
                go_wp2_with fail
                refine gen_call (fun W7 hW7 => ?_)
                have hB7 : BL w6 W7 := by rw [hW7]; first | assumption | (repeat (first | exact Below.refl _ _ | refine Below.alloc ?_ (by first | (simp; done) | (simp; omega)) _))
                clear hW7
                refine (all_calls (some ⟨g1, 0, none⟩) A nm c1 nm cm Fm Fm W7 (HS.out.1.lat.later hB7) (HG.out.2.2.1.later (BL.call HS.out.2.2.1 hB7)) (by unfold maxLen; omega) (by unfold maxLen; omega) true ⟨fun _ => ⟨rfl, fun _ _ => rfl⟩, fun _ => rfl⟩).mono ?_
                rintro e w8 ⟨rfl, hb8⟩
                have hB8 : BL w6 w8 := BL.call hB7 hb8
                clear k1 k2 k3 k4
                have k2 := cells_of (hB8.row HS.out.2.2.2.2.1)
                have k4 := cells_of (hB8.row HS.out.2.2.2.2.2.2)
                go_wp2_with fail
                refine (all_calls (some ⟨g1, 0, none⟩) A nm c1 nm cm Fm Fm w8 (HS.out.2.1.lat.later hB8) (HG.out.2.2.1.later (BL.call HS.out.2.2.1 hB8)) (by unfold maxLen; omega) (by unfold maxLen; omega) true ⟨fun _ => ⟨rfl, fun _ _ => rfl⟩, fun _ => rfl⟩).mono ?_
                rintro e w9 ⟨rfl, hb9⟩
                go_wp2_with fail
                refine (awake_calls w9).mono ?_
                rintro e w10 ⟨rfl, hb10⟩
                go_wp2
                go_ret
                exact ⟨rfl, BL.call HS.out.2.2.1 (BL.call hB8 (BL.call hb9 hb10))⟩
              | true =>
                have e1 : rT = 0 := HT.out.1.symm.trans (tcode_ok HBAD.out ⟨rfl, rfl⟩ HNM.out (HK.out.2.1 rfl))
                have e2 : Lx = intoN off ldx N K (solT true kind (tab offm ld Fm) N (tab off ldx Fm)) Fm := HT.out.2.1.symm.trans (tleft_ok (HT.out.1.trans e1) (by omega) rfl)
                subst e1
                have HL := Lib.hid e2
                clear e2
                go_wp2_with fail
                refine gen_call (fun W7 hW7 => ?_)
                have hB7 : BL w6 W7 := by rw [hW7]; repeat (first | exact Below.refl _ _ | refine Below.alloc ?_ (by first | (simp; done) | (simp; omega)) _)
                have q5 : W7.heap[w6.heap.size]? = some (.cells #[.int .i64 0, .int .i64 0, .slice none 0 0] 31 (0, 0)) := by rw [hW7]; exact new_row _ _
                clear hW7
                refine (rgood_calls A nm cm offm N N ld W7 (by omega) m1 m2 m3 m4 true (decide_eq_true HGD.out.1).symm).mono ?_
                rintro e w7 ⟨rfl, hb7⟩
                have hb7' : BL w6 w7 := BL.call hB7 hb7
                have q5 := (show BL W7 w7 from hb7).row q5
                clear k1 k2 k3 k4
                have k4 := cells_of (hb7'.row HS.out.2.2.2.2.2.2)
                go_wp2_with fail
                refine (rgood_calls A nm cm off N K ldx w7 (by omega) x1 x2 x3 x4 true (decide_eq_true HGD.out.2).symm).mono ?_
                rintro e w7x ⟨rfl, hb7x⟩
                have hb7'' : BL w6 w7x := BL.call hb7' hb7x
                have q5 := (show BL w7 w7x from hb7x).row q5
                clear k4
                have k1 := cells_of (hb7''.row HS.out.2.2.2.1)
                have k2 := cells_of (hb7''.row HS.out.2.2.2.2.1)
                have k3 := cells_of (hb7''.row HS.out.2.2.2.2.2.1)
                have k4 := cells_of (hb7''.row HS.out.2.2.2.2.2.2)
                have q5x := q5
                have q1x := hb7''.row HS.out.2.2.2.2.2.1
                have q2x := hb7''.row HS.out.2.2.2.2.2.2
                have hA7 := HG.out.2.2.1.later (BL.call HS.out.2.2.1 hb7'')
                have hX7 := HG.out.2.2.1.later (BL.call HS.out.2.2.1 hb7'')
                have H7 := Lib.hid (And.intro hA7 (And.intro hX7 (And.intro hb7'' (And.intro hb7 hb7x))))
                have z7 := hb7x.size
                have z7' := hb7.size
                clear hA7 hX7 hb7'' hb7' hb7 hb7x
                go_wp2
                clear k1 k2 k3 k4
                refine wp_region_late 8 10 (BL w7x) (fun i => match i with | 2 => [1] | 4 => [3] | 5 => [0, 2, 4] | 6 => [5] | 7 => [6] | 8 => [6] | _ => [])
                  (fun i v w' => match i with
                    | 0 => v = .int .i64 kind
                    | 1 => v = matA A nm cm offm N N ld
                    | 2 => ∃ g, v = .agg #[.int .i64 N, .int .i64 N, .slice (some ⟨g, 0, none⟩) (N * N : Nat) (N * N : Nat)] ∧ OwnL w' w7x.heap.size g (N * N) (N * N) (rowT (tab offm ld Fm) N)
                    | 3 => v = matA A nm cm off N K ldx
                    | 4 => ∃ g, v = .agg #[.int .i64 N, .int .i64 K, .slice (some ⟨g, 0, none⟩) (N * K : Nat) (N * K : Nat)] ∧ OwnL w' w7x.heap.size g (N * K) (N * K) (rowT (tab off ldx Fm) K)
                    | 5 => ∃ g c', v = .tuple #[.agg #[.int .i64 N, .int .i64 K, .slice (some ⟨g, 0, none⟩) (N * K : Nat) c'], .bool true] ∧ OwnL w' w7x.heap.size g c' (N * K) (rowT (solT true kind (tab offm ld Fm) N (tab off ldx Fm)) K)
                    | 6 => ∃ g c', v = .tuple #[.agg #[.int .i64 N, .int .i64 K, .slice (some ⟨g, 0, none⟩) (N * K : Nat) c'], .bool true] ∧ OwnL w' w7x.heap.size g c' (N * K) (rowT (solT true kind (tab offm ld Fm) N (tab off ldx Fm)) K)
                    | 7 => ∃ g c', v = .agg #[.int .i64 N, .int .i64 K, .slice (some ⟨g, 0, none⟩) (N * K : Nat) c'] ∧ OwnL w' w7x.heap.size g c' (N * K) (rowT (solT true kind (tab offm ld Fm) N (tab off ldx Fm)) K)
                    | 8 => v = .bool true
                    | _ => ∃ r, v = .pointer (some ⟨r, 0, none⟩) ∧ w7x.heap.size ≤ r ∧ w'.heap[r]? = some (.cells #[.int .i64 0, .int .i64 0, .slice none 0 0] 31 (0, 0)))
                  (fun _ _ => []) (by kernel_rfl) (by kernel_rfl) (BL.refl _).drew ?_ (fun c dst v a w h => by cases dst <;> exact h) ?_
                · intro i v w' w'' h hb
                  match i, h with
                  | 0, h => exact h
                  | 1, h => exact h
                  | 2, ⟨g, h1, h2⟩ => exact ⟨g, h1, h2.later hb⟩
                  | 3, h => exact h
                  | 4, ⟨g, h1, h2⟩ => exact ⟨g, h1, h2.later hb⟩
                  | 5, ⟨g, c, h1, h2⟩ => exact ⟨g, c, h1, h2.later hb⟩
                  | 6, ⟨g, c, h1, h2⟩ => exact ⟨g, c, h1, h2.later hb⟩
                  | 7, ⟨g, c, h1, h2⟩ => exact ⟨g, c, h1, h2.later hb⟩
                  | 8, h => exact h
                  | (i + 9), ⟨r, h1, h2, h3⟩ => exact ⟨r, h1, h2, (show BL w' w'' from hb).row h3⟩
                intro vs
                simp only [List.take_succ_cons, List.take_zero, List.drop_succ_cons, List.drop_zero]
                refine obq_step rfl (by decide) (fun w8 hw8 _ => ?_) ?_
                · refine free_wp rfl rfl (by simp) (fun K hK => ?_)
                  go_step
                  exact hK _ _ ⟨hw8, Below.refl _ _, rfl, fun b hb => by cases hb⟩
                rw [put_lit]; simp only [List.set_cons_succ, List.set_cons_zero]
                refine obq_step rfl (by decide) (fun w8 hw8 _ => ?_) ?_
                · refine free_wp rfl rfl (by simp) (fun K hK => ?_)
                  have k1 := cells_of (hw8.row q1x)
                  go_step
                  exact hK _ _ ⟨hw8, Below.refl _ _, rfl, fun b hb => by cases hb⟩
                rw [put_lit]; simp only [List.set_cons_succ, List.set_cons_zero]
                refine obq_step rfl (by decide) (fun w8 hw8 hd => ?_) ?_
                · have e0 := hd 1 (by simp)
                  simp only at e0
                  rw [e0]
                  unfold matA
                  go_simp
                  refine (of_calls3 A nm cm offm ld N N Fm w8 (by omega) HGD.out.1 m1 m4 (by omega) (by omega) (H7.out.1.later hw8)).mono ?_
                  rintro e w9 ⟨g, rfl, hO, hb9⟩
                  exact ⟨_, rfl, hw8.call hb9, hb9, ⟨g, rfl, hO.base hw8.size⟩, fun b hb => by cases hb⟩
                rw [put_lit]; simp only [List.set_cons_succ, List.set_cons_zero]
                refine obq_step rfl (by decide) (fun w8 hw8 _ => ?_) ?_
                · refine free_wp rfl rfl (by simp) (fun K hK => ?_)
                  have k1 := cells_of (hw8.row q2x)
                  go_step
                  exact hK _ _ ⟨hw8, Below.refl _ _, rfl, fun b hb => by cases hb⟩
                rw [put_lit]; simp only [List.set_cons_succ, List.set_cons_zero]
                refine obq_step rfl (by decide) (fun w8 hw8 hd => ?_) ?_
                · have e0 := hd 3 (by simp)
                  simp only at e0
                  rw [e0]
                  unfold matA
                  go_simp
                  refine (of_calls3 A nm cm off ldx N K Fm w8 (by omega) HGD.out.2 x1 x4 (by omega) (by omega) (H7.out.2.1.later hw8)).mono ?_
                  rintro e w9 ⟨g, rfl, hO, hb9⟩
                  exact ⟨_, rfl, hw8.call hb9, hb9, ⟨g, rfl, hO.base hw8.size⟩, fun b hb => by cases hb⟩
                rw [put_lit]; simp only [List.set_cons_succ, List.set_cons_zero]
                refine obq_step rfl (by decide) (fun w8 hw8 hd => ?_) ?_
                · have e0 := hd 0 (by simp)
                  obtain ⟨ga, ea, hOa⟩ := hd 2 (by simp)
                  obtain ⟨gb, eb, hOb⟩ := hd 4 (by simp)
                  simp only at e0
                  rw [e0, ea, eb]
                  go_simp
                  refine (solve14_calls kind HK.out.1 ga 0 (N * N) (N * N) N (tab offm ld Fm) gb 0 (N * K) K (tab off ldx Fm) w8 (by omega) (by omega) (Nat.le_refl _) (Nat.le_trans (Nat.mul_le_mul (show N ≤ 64 by omega) (show N ≤ 64 by omega)) (by omega)) hOa.2.2.2.2 hOb.2.2.2.2 true (by have hk := HK.out.2; simpa using hk)).mono ?_
                  rintro e w9 ⟨g, c', rfl, hO, hb9⟩
                  exact ⟨_, rfl, hw8.call hb9, hb9, ⟨g, c', rfl, hO.base hw8.size⟩, fun b hb => by cases hb⟩
                rw [put_lit]; simp only [List.set_cons_succ, List.set_cons_zero]
                refine obq_step rfl (by decide) (fun w8 hw8 hd => ?_) ?_
                · obtain ⟨g5, c5, e0, hO5⟩ := hd 5 (by simp)
                  rw [e0]
                  refine free_wp rfl rfl (by simp) (fun K hK => ?_)
                  go_step
                  exact hK _ _ ⟨hw8, Below.refl _ _, ⟨_, _, rfl, hO5⟩, fun b hb => by cases hb⟩
                rw [put_lit]; simp only [List.set_cons_succ, List.set_cons_zero]
                refine obq_step rfl (by decide) (fun w8 hw8 hd => ?_) ?_
                · obtain ⟨g5, c5, e0, hO5⟩ := hd 6 (by simp)
                  rw [e0]
                  refine free_wp rfl rfl (by simp) (fun K hK => ?_)
                  go_step
                  exact hK _ _ ⟨hw8, Below.refl _ _, ⟨_, _, rfl, hO5⟩, fun b hb => by cases hb⟩
                rw [put_lit]; simp only [List.set_cons_succ, List.set_cons_zero]
                refine obq_late rfl (fun w8 hw8 hd => ?_) ?_
                · obtain ⟨g5, c5, e0, hO5⟩ := hd 6 (by simp)
                  rw [e0]
                  exact ⟨.bool true, fun w' => by go_simp, rfl, rfl⟩
                rw [put_lit]; simp only [List.set_cons_succ, List.set_cons_zero]
                refine obq_step rfl (by decide) (fun w8 hw8 _ => ?_) ?_
                · refine free_wp rfl rfl (by simp) (fun K hK => ?_)
                  go_step
                  exact hK _ _ ⟨hw8.call ((Below.refl _ _).alloc (Nat.le_refl _) _), (Below.refl _ _).alloc (Nat.le_refl _) _, ⟨_, rfl, hw8.size, new_row _ _⟩, fun b hb => by cases hb⟩
                rw [put_lit]; simp only [List.set_cons_succ, List.set_cons_zero]
                refine obq_end (fun w8 hw8 hψ _ _ => ?_)
                obtain ⟨g7, c7, e7, hO7⟩ := hψ 7 (by omega)
                have e8 : vs 8 = .bool true := hψ 8 (by omega)
                obtain ⟨r9, e9, hr9, hr9'⟩ := hψ 9 (by omega)
                simp only [Nat.zero_add, Nat.reduceAdd]
                rw [e7, e8, e9]
                generalize vs 0 = y0
                generalize vs 1 = y1
                generalize vs 2 = y2
                generalize vs 3 = y3
                generalize vs 4 = y4
                generalize vs 5 = y5
                generalize vs 6 = y6
                clear hψ e7 e8 e9
                have q5 := hw8.row q5
                have n79 : g7 ≠ r9 := fun e => by obtain ⟨_, _, _, ⟨cur, h, _⟩, _⟩ := hO7; rw [e, hr9'] at h; cases h
                have n75 : g7 ≠ w6.heap.size := fun e => by obtain ⟨_, _, _, ⟨cur, h, _⟩, _⟩ := hO7; rw [e, q5] at h; cases h
                have z65 : w6.heap.size < w7x.heap.size := Nat.lt_of_lt_of_le (Array.getElem?_eq_some_iff.1 q5x).1 (Nat.le_refl _)
                have n95 : r9 ≠ w6.heap.size := by omega
                have k9 := cells_of hr9'
                have k5 := cells_of q5
                have f9 : ∀ i, w8.frozen? ⟨r9, i, none⟩ = false := fun i => by simp [World.frozen?, hr9']
                have f5 : ∀ i, w8.frozen? ⟨w6.heap.size, i, none⟩ = false := fun i => by simp [World.frozen?, q5]
                have h9 : r9 < w8.heap.size := (Array.getElem?_eq_some_iff.1 hr9').1
                have h5 : w6.heap.size < w8.heap.size := (Array.getElem?_eq_some_iff.1 q5).1
                have k1 := cells_of (hw8.row q1x)
                have k2 := cells_of (hw8.row q2x)
                have h1x : w.heap.size < w8.heap.size := by omega
                have h2x : w.heap.size + 1 < w8.heap.size := by omega
                have m91 : ¬ r9 = w.heap.size := by omega
                have m92 : ¬ r9 = w.heap.size + 1 := by omega
                have m61 : ¬ w6.heap.size = w.heap.size := by omega
                have m62 : ¬ w6.heap.size = w.heap.size + 1 := by omega
                have HU := Lib.hid (And.intro hO7 (And.intro hw8 (And.intro hr9' q5)))
                clear hO7 hw8 hr9' q5 q5x q1x q2x
                go_wp2_with fail
                refine gen_call (fun W9 hW9 => ?_)
                change W9 = ((((((w8.setCell ⟨r9, 0, none⟩ _).setCell ⟨r9, 1, none⟩ _).setCell ⟨r9, 2, none⟩ _).setCell ⟨w6.heap.size, 0, none⟩ _).setCell ⟨w6.heap.size, 1, none⟩ _).setCell ⟨w6.heap.size, 2, none⟩ _) at hW9
                have hO7 : OwnL W9 w7x.heap.size g7 c7 (N * K) (rowT (solT true kind (tab offm ld Fm) N (tab off ldx Fm)) K) := by
                  have mA := fun i : Nat => (show (⟨r9, i, none⟩ : Addr).block ≠ g7 from Ne.symm n79)
                  have mB := fun i : Nat => (show (⟨w6.heap.size, i, none⟩ : Addr).block ≠ g7 from Ne.symm n75)
                  rw [hW9]; exact (((((HU.out.1.set (mA 0) _).set (mA 1) _).set (mA 2) _).set (mB 0) _).set (mB 1) _).set (mB 2) _
                have q5 : W9.heap[w6.heap.size]? = some (.cells #[.int .i64 N, .int .i64 K, .slice (some ⟨g7, 0, none⟩) (N * K : Nat) c7] 31 (0, 0)) := by
                  have mA := fun i : Nat => (show (⟨r9, i, none⟩ : Addr).block ≠ w6.heap.size from n95)
                  rw [hW9]; exact row_set (row_set (row_set (row_other (row_other (row_other HU.out.2.2.2 (mA 0) _) (mA 1) _) (mA 2) _) 0 _) 1 _) 2 _
                have hB9 : BL w6 W9 := by
                  have mA := fun i : Nat => (show w6.heap.size ≤ (⟨r9, i, none⟩ : Addr).block from Nat.le_trans (Nat.le_of_lt z65) hr9)
                  have mB := fun i : Nat => (show w6.heap.size ≤ (⟨w6.heap.size, i, none⟩ : Addr).block from Nat.le_refl _)
                  rw [hW9]; exact ((((((show BL w6 w8 from BL.call H7.out.2.2.1 HU.out.2.1).setCell (mA 0) _).setCell (mA 1) _).setCell (mA 2) _).setCell (mB 0) _).setCell (mB 1) _).setCell (mB 2) _
                clear hW9 k9 k5 f9 f5 h9 h5 k1 k2 h1x h2x
                refine (mspan_calls A nm cm offm N N ld W9 (by omega) HGD.out.1 m1 m2 m3 m4).mono ?_
                rintro e w10 ⟨rfl, hb10⟩
                have hB10 : BL w6 w10 := BL.call hB9 hb10
                have k2 := cells_of (hB10.row HS.out.2.2.2.2.2.2)
                go_wp2_with fail
                refine (mspan_calls A nm cm off N K ldx w10 (by omega) HGD.out.2 x1 x2 x3 x4).mono ?_
                rintro e w11 ⟨rfl, hb11⟩
                have hB11 : BL w6 w11 := BL.call hB10 hb11
                have q5 := (show BL w10 w11 from hb11).row ((show BL W9 w10 from hb10).row q5)
                have hO7 := (hO7.later hb10).later hb11
                clear k2 hb10 hb11 hB10 hB9
                have k1 := cells_of (hB11.row HS.out.2.2.2.1)
                have k2 := cells_of (hB11.row HS.out.2.2.2.2.1)
                have k3 := cells_of (hB11.row HS.out.2.2.2.2.2.1)
                have k4 := cells_of (hB11.row HS.out.2.2.2.2.2.2)
                go_wp2_with fail
                refine (spans_calls _ _ _ _ w11 false (decide_eq_false HSP.out).symm).mono ?_
                rintro e w11s ⟨rfl, hws⟩
                replace hws := hws.symm
                subst hws
                have HR : Rows5 r2 (w.heap.size + 1) w6.heap.size r1 w.heap.size
                    (.cells #[.slice (some ⟨g1, 0, none⟩) nm c1, .int .i64 off, .int .i64 N, .int .i64 K, .int .i64 ldx] 24 (0, 0)) (.cells #[.slice A nm cm, .int .i64 off, .int .i64 N, .int .i64 K, .int .i64 ldx] 24 (0, 0))
                    (.cells #[.int .i64 N, .int .i64 K, .slice (some ⟨g7, 0, none⟩) (N * K : Nat) c7] 31 (0, 0))
                    (.cells #[.slice (some ⟨g1, 0, none⟩) nm c1, .int .i64 offm, .int .i64 N, .int .i64 N, .int .i64 ld] 24 (0, 0)) (.cells #[.slice A nm cm, .int .i64 offm, .int .i64 N, .int .i64 N, .int .i64 ld] 24 (0, 0)) w11 :=
                  ⟨hB11.row HS.out.2.2.2.2.1, hB11.row HS.out.2.2.2.2.2.2, q5, hB11.row HS.out.2.2.2.1, hB11.row HS.out.2.2.2.2.2.1⟩
                have HR2 := Lib.hid (And.intro hB11 (And.intro hO7 HR))
                clear hB11 hO7 HR q5
                go_wp2
                clear k1 k2 k3 k4
                refine wp_region_mix [(0, true), (1, true), (2, true), (3, true), (4, false), (5, false), (6, false), (7, false), (8, false), (9, true), (10, true), (11, true), (12, true), (13, false), (14, false), (15, false), (16, false), (17, false), (18, false), (19, false)]
                  (Rows5 r2 (w.heap.size + 1) w6.heap.size r1 w.heap.size
                    (.cells #[.slice (some ⟨g1, 0, none⟩) nm c1, .int .i64 off, .int .i64 N, .int .i64 K, .int .i64 ldx] 24 (0, 0)) (.cells #[.slice A nm cm, .int .i64 off, .int .i64 N, .int .i64 K, .int .i64 ldx] 24 (0, 0))
                    (.cells #[.int .i64 N, .int .i64 K, .slice (some ⟨g7, 0, none⟩) (N * K : Nat) c7] 31 (0, 0))
                    (.cells #[.slice (some ⟨g1, 0, none⟩) nm c1, .int .i64 offm, .int .i64 N, .int .i64 N, .int .i64 ld] 24 (0, 0)) (.cells #[.slice A nm cm, .int .i64 offm, .int .i64 N, .int .i64 N, .int .i64 ld] 24 (0, 0))) (by kernel_rfl) (by kernel_rfl) (HR2.out.2.2.later (BL.refl _).drew) (fun c dst v a w h => by cases dst <;> exact h) ?_
                simp only [pickM, List.filterMap_cons, List.filterMap_nil, List.getElem?_cons_zero, List.getElem?_cons_succ, Option.map_some]
                refine mix_uni rfl (.pointer (some ⟨r2, 0, none⟩)) (fun w' hw => by have k1 := cells_of hw.1; go_simp) ?_
                rw [put_lit]; simp only [List.set_cons_succ, List.set_cons_zero]
                refine mix_uni rfl (.slice (some ⟨g1, 0, none⟩) nm c1) (fun w' hw => by have k1 := cells_of hw.1; go_simp) ?_
                rw [put_lit]; simp only [List.set_cons_succ, List.set_cons_zero]
                refine mix_uni rfl (.agg #[.slice A nm cm, .int .i64 off, .int .i64 N, .int .i64 K, .int .i64 ldx]) (fun w' hw => by have k1 := cells_of hw.2.1; go_simp) ?_
                rw [put_lit]; simp only [List.set_cons_succ, List.set_cons_zero]
                refine mix_uni rfl (.agg #[.int .i64 N, .int .i64 K, .slice (some ⟨g7, 0, none⟩) (N * K : Nat) c7]) (fun w' hw => by have k1 := cells_of hw.2.2.1; go_simp) ?_
                rw [put_lit]; simp only [List.set_cons_succ, List.set_cons_zero]
                refine mix_do rfl ?_
                go_simp
                have hbd : BL w6 w11.drew := HR2.out.1.drew
                refine (into_calls A nm cm off ldx N K N K g7 0 (N * K) c7 Fm (solT true kind (tab offm ld Fm) N (tab off ldx Fm)) w11.drew (by omega) (by omega) HGD.out.2 x1 x4 (by omega) (by omega) (HG.out.2.2.1.later (BL.call HS.out.2.2.1 hbd)) (Nat.le_refl _) (Nat.le_trans (Nat.mul_le_mul (show N ≤ 64 by omega) (show K ≤ 64 by omega)) (by omega)) (HR2.out.2.1.later (BL.refl _).drew).2.2.2.2).mono ?_
                rintro e w12 ⟨gi, ci, rfl, hOi, hb12⟩
                have hB12 : BL w6 w12 := BL.call hbd hb12
                have HR12 := (HR2.out.2.2.later (BL.refl _).drew).later (show BL w11.drew w12 from hb12)
                refine ⟨HR12, ?_⟩
                refine mix_do rfl ?_
                go_simp
                refine (all_calls (some ⟨g1, 0, none⟩) (some ⟨gi, 0, none⟩) nm c1 nm ci Lx (intoN off ldx N K (solT true kind (tab offm ld Fm) N (tab off ldx Fm)) Fm) w12 (HS.out.2.1.lat.later hB12) hOi.lat (by unfold maxLen; omega) (by unfold maxLen; omega) true ⟨fun _ => ⟨rfl, fun i _ => by rw [HL.out]⟩, fun _ => rfl⟩).mono ?_
                rintro e w13 ⟨rfl, hb13⟩
                have hB13 : BL w6 w13 := BL.call hB12 hb13
                have HR13 := HR12.later (show BL w12 w13 from hb13)
                refine ⟨HR13, ?_⟩
                refine mix_val rfl (.bool true) (by go_simp) HR13 ?_
                rw [put_lit]; simp only [List.set_cons_succ, List.set_cons_zero]
                refine mix_val rfl (.bool true) (by go_simp) HR13 ?_
                rw [put_lit]; simp only [List.set_cons_succ, List.set_cons_zero]
                refine mix_val rfl (.bool true) (by go_simp) HR13 ?_
                rw [put_lit]; simp only [List.set_cons_succ, List.set_cons_zero]
                refine mix_uniN rfl ?_
                rw [put_lit]; simp only [List.set_cons_succ, List.set_cons_zero]
                refine mix_uniN rfl ?_
                rw [put_lit]; simp only [List.set_cons_succ, List.set_cons_zero]
                refine mix_uniN rfl ?_
                rw [put_lit]; simp only [List.set_cons_succ, List.set_cons_zero]
                refine mix_uniN rfl ?_
                rw [put_lit]; simp only [List.set_cons_succ, List.set_cons_zero]
                refine mix_not rfl ?_
                rw [put_lit]; simp only [List.set_cons_succ, List.set_cons_zero]
                have hB14 := hB13
                have HR14 := HR13
                refine mix_val rfl (.bool true) (by go_simp) HR14 ?_
                rw [put_lit]; simp only [List.set_cons_succ, List.set_cons_zero]
                refine mix_val rfl (.bool true) (by go_simp) HR14 ?_
                rw [put_lit]; simp only [List.set_cons_succ, List.set_cons_zero]
                refine mix_val rfl (.bool true) (by go_simp) HR14 ?_
                rw [put_lit]; simp only [List.set_cons_succ, List.set_cons_zero]
                refine mix_do rfl ?_
                go_simp
                refine (awake_calls w13).mono ?_
                rintro e w15 ⟨rfl, hb15⟩
                have hB15 : BL w6 w15 := BL.call hB14 hb15
                have HR15 := HR14.later (show BL w13 w15 from hb15)
                refine ⟨HR15, ?_⟩
                refine mix_val rfl (.bool true) (by go_simp) HR15 ?_
                rw [put_lit]; simp only [List.set_cons_succ, List.set_cons_zero]
                refine mix_val rfl (.bool true) (by go_simp) HR15 ?_
                rw [put_lit]; simp only [List.set_cons_succ, List.set_cons_zero]
                refine mix_end ?_
                have HE := Lib.hid hB15
                clear hB12 hB13 hB14 hB15 HR12 HR13 HR14 HR15 hOi
                go_wp2
                go_ret
                exact ⟨rfl, BL.call HS.out.2.2.1 HE.out⟩
          · have e1 : rT = 3 := HT.out.1.symm.trans (tcode_size hbad hsz)
            have e2 : Fm = Lx := (HT.out.2.1.symm.trans (tleft_err (by rw [HT.out.1, e1]; decide))).symm
            subst e1
            subst e2
            have HGD := Lib.hid (And.intro g1' g2')
            clear g1' g2' hbad
            by_cases hrc : R = C
            · have hrr : R' ≠ R := fun h => hsz ⟨hrc, h⟩
              have d4 : (R != C) = false := by simp [hrc]
              have d5 : (R' != R) = true := by simp [hrr]
              clear hsz hrc hrr
              go_wp2_with fail
              refine gen_call (fun W7 hW7 => ?_)
              have hB7 : BL w6 W7 := by rw [hW7]; repeat (first | exact Below.refl _ _ | refine Below.alloc ?_ (by first | (simp; done) | (simp; omega)) _)
              have q5 : W7.heap[w6.heap.size]? = some (.cells #[.int .i64 0, .int .i64 0, .slice none 0 0] 31 (0, 0)) := by rw [hW7]; exact new_row _ _
              clear hW7
              refine (rgood_calls A nm cm offm R C ld W7 (by omega) m1 m2 m3 m4 true (decide_eq_true HGD.out.1).symm).mono ?_
              rintro e w7 ⟨rfl, hb7⟩
              have hb7' : BL w6 w7 := BL.call hB7 hb7
              have q5 := (show BL W7 w7 from hb7).row q5
              clear k1 k2 k3 k4
              have k4 := cells_of (hb7'.row HS.out.2.2.2.2.2.2)
              go_wp2_with fail
              refine (rgood_calls A nm cm off R' C' ldx w7 (by omega) x1 x2 x3 x4 true (decide_eq_true HGD.out.2).symm).mono ?_
              rintro e w7x ⟨rfl, hb7x⟩
              have hb7'' : BL w6 w7x := BL.call hb7' hb7x
              have q5 := (show BL w7 w7x from hb7x).row q5
              clear k4
              have k1 := cells_of (hb7''.row HS.out.2.2.2.1)
              have k2 := cells_of (hb7''.row HS.out.2.2.2.2.1)
              have k3 := cells_of (hb7''.row HS.out.2.2.2.2.2.1)
              have k4 := cells_of (hb7''.row HS.out.2.2.2.2.2.2)
              go_wp2_with fail
              refine gen_call (fun W7 hW7 => ?_)
              have hB7 : BL w6 W7 := by rw [hW7]; first | assumption | (repeat (first | exact Below.refl _ _ | refine Below.alloc ?_ (by first | (simp; done) | (simp; omega)) _))
              clear hW7
              refine (all_calls (some ⟨g1, 0, none⟩) A nm c1 nm cm Fm Fm W7 (HS.out.1.lat.later hB7) (HG.out.2.2.1.later (BL.call HS.out.2.2.1 hB7)) (by unfold maxLen; omega) (by unfold maxLen; omega) true ⟨fun _ => ⟨rfl, fun _ _ => rfl⟩, fun _ => rfl⟩).mono ?_
              rintro e w8 ⟨rfl, hb8⟩
              have hB8 : BL w6 w8 := BL.call hB7 hb8
              clear k1 k2 k3 k4
              have k2 := cells_of (hB8.row HS.out.2.2.2.2.1)
              have k4 := cells_of (hB8.row HS.out.2.2.2.2.2.2)
              go_wp2_with fail
              refine (all_calls (some ⟨g1, 0, none⟩) A nm c1 nm cm Fm Fm w8 (HS.out.2.1.lat.later hB8) (HG.out.2.2.1.later (BL.call HS.out.2.2.1 hB8)) (by unfold maxLen; omega) (by unfold maxLen; omega) true ⟨fun _ => ⟨rfl, fun _ _ => rfl⟩, fun _ => rfl⟩).mono ?_
              rintro e w9 ⟨rfl, hb9⟩
              go_wp2_with fail
              refine (awake_calls w9).mono ?_
              rintro e w10 ⟨rfl, hb10⟩
              go_wp2
              go_ret
              exact ⟨rfl, BL.call HS.out.2.2.1 (BL.call hB8 (BL.call hb9 hb10))⟩
            · have d4 : (R != C) = true := by simp [hrc]
              clear hsz hrc
              go_wp2_with fail
              refine gen_call (fun W7 hW7 => ?_)
              have hB7 : BL w6 W7 := by rw [hW7]; repeat (first | exact Below.refl _ _ | refine Below.alloc ?_ (by first | (simp; done) | (simp; omega)) _)
              have q5 : W7.heap[w6.heap.size]? = some (.cells #[.int .i64 0, .int .i64 0, .slice none 0 0] 31 (0, 0)) := by rw [hW7]; exact new_row _ _
              clear hW7
              refine (rgood_calls A nm cm offm R C ld W7 (by omega) m1 m2 m3 m4 true (decide_eq_true HGD.out.1).symm).mono ?_
              rintro e w7 ⟨rfl, hb7⟩
              have hb7' : BL w6 w7 := BL.call hB7 hb7
              have q5 := (show BL W7 w7 from hb7).row q5
              clear k1 k2 k3 k4
              have k4 := cells_of (hb7'.row HS.out.2.2.2.2.2.2)
              go_wp2_with fail
              refine (rgood_calls A nm cm off R' C' ldx w7 (by omega) x1 x2 x3 x4 true (decide_eq_true HGD.out.2).symm).mono ?_
              rintro e w7x ⟨rfl, hb7x⟩
              have hb7'' : BL w6 w7x := BL.call hb7' hb7x
              have q5 := (show BL w7 w7x from hb7x).row q5
              clear k4
              have k1 := cells_of (hb7''.row HS.out.2.2.2.1)
              have k2 := cells_of (hb7''.row HS.out.2.2.2.2.1)
              have k3 := cells_of (hb7''.row HS.out.2.2.2.2.2.1)
              have k4 := cells_of (hb7''.row HS.out.2.2.2.2.2.2)
              go_wp2_with fail
              refine gen_call (fun W7 hW7 => ?_)
              have hB7 : BL w6 W7 := by rw [hW7]; first | assumption | (repeat (first | exact Below.refl _ _ | refine Below.alloc ?_ (by first | (simp; done) | (simp; omega)) _))
              clear hW7
              refine (all_calls (some ⟨g1, 0, none⟩) A nm c1 nm cm Fm Fm W7 (HS.out.1.lat.later hB7) (HG.out.2.2.1.later (BL.call HS.out.2.2.1 hB7)) (by unfold maxLen; omega) (by unfold maxLen; omega) true ⟨fun _ => ⟨rfl, fun _ _ => rfl⟩, fun _ => rfl⟩).mono ?_
              rintro e w8 ⟨rfl, hb8⟩
              have hB8 : BL w6 w8 := BL.call hB7 hb8
              clear k1 k2 k3 k4
              have k2 := cells_of (hB8.row HS.out.2.2.2.2.1)
              have k4 := cells_of (hB8.row HS.out.2.2.2.2.2.2)
              go_wp2_with fail
              refine (all_calls (some ⟨g1, 0, none⟩) A nm c1 nm cm Fm Fm w8 (HS.out.2.1.lat.later hB8) (HG.out.2.2.1.later (BL.call HS.out.2.2.1 hB8)) (by unfold maxLen; omega) (by unfold maxLen; omega) true ⟨fun _ => ⟨rfl, fun _ _ => rfl⟩, fun _ => rfl⟩).mono ?_
              rintro e w9 ⟨rfl, hb9⟩
              go_wp2_with fail
              refine (awake_calls w9).mono ?_
              rintro e w10 ⟨rfl, hb10⟩
              go_wp2
              go_ret
              exact ⟨rfl, BL.call HS.out.2.2.1 (BL.call hB8 (BL.call hb9 hb10))⟩
end Go.Proofs.Ytapilgbbkbfcbaa

