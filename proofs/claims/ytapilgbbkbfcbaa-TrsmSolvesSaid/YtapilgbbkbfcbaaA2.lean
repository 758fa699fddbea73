/- Layer 14's law: alike: what the code computes. -/
import Derived.Test.YtapilgbbkbfcbaaA1
import Derived.Test.YtapilgbbkbfcbaaUni
namespace Go.Proofs.Ytapilgbbkbfcbaa
open Go Go.RowKit

theorem row_set {w : World} {r : Nat} {cs : Array Value} {T : TypeId} {z : Nat × Nat} (h : w.heap[r]? = some (.cells cs T z)) (i : Nat) (v : Value) : (w.setCell ⟨r, i, none⟩ v).heap[r]? = some (.cells (cs.setIfInBounds i v) T z) := by
  simp [World.setCell, Array.getElem?_modify, h]
theorem row_other {w : World} {r : Nat} {ob : Obj} (h : w.heap[r]? = some ob) {a : Addr} (ha : a.block ≠ r) (v : Value) : (w.setCell a v).heap[r]? = some ob := (Below.heap_setCell _ _ _ _ (Ne.symm ha)).trans h
theorem below_wr {w w1 w2 : World} {g : Nat} {S : Nat → Prop} (h : Below w.heap.size w w1) (hw : WrB w1 w2 g S) (hB : w.heap.size ≤ g) : Below w.heap.size w w2 :=
  ⟨hw.os.trans h.os, hw.tape.trans h.tape, hw.output.trans h.output, Nat.le_trans h.size hw.size, fun j hj => (hw.other j (Nat.lt_of_lt_of_le hj h.size) (by omega)).trans (h.block j hj)⟩
def blkOf (v : Value) : List Nat :=
  match v with
  | Value.agg (xs : Array Value) => (match xs[0]? with | some (Value.slice (some a) _ _) => [a.block] | _ => [])
  | Value.pointer (some a) => [a.block]
  | _ => []
def matA (A : Option Addr) (n c : Nat) (off R C ld : Int) : Value := .agg #[.slice A n c, .int .i64 off, .int .i64 R, .int .i64 C, .int .i64 ld]
def zeroMat : Array Value := #[.slice none 0 0, .int .i64 0, .int .i64 0, .int .i64 0, .int .i64 0]
theorem OwnL.base {w : World} {base base' g c n : Nat} {F : Nat → Nat} (h : OwnL w base g c n F) (hb : base' ≤ base) : OwnL w base' g c n F := ⟨Nat.le_trans hb h.1, h.2⟩
theorem lat_apart {w : World} {base g c n : Nat} {F : Nat → Nat} {A : Option Addr} {m : Nat} {G : Nat → Nat} (h : OwnL w base g c n F) (hc : 0 < c) (hA : LAt w A m G) (hm : 0 < m) (hlt : ∀ b o, A = some ⟨b, o, none⟩ → b < base) : ∀ a, A = some a → (⟨g, 0, none⟩ : Addr).block ≠ a.block ∧ ApartOK w ⟨g, 0, none⟩ a := by
  intro a ha
  obtain ⟨b, o, rfl, hX⟩ := hA hm
  cases ha
  have hb := hlt b o rfl
  have h1 := h.1
  refine ⟨by show g ≠ b; omega, ?_⟩
  obtain ⟨_, _, _, ⟨cur, h4, h5⟩, _⟩ := h
  obtain ⟨v, _, hcell, _⟩ := hX.one hm
  unfold World.cell? at hcell
  simp only at hcell
  cases hr : w.heap[b]? with
  | none => rw [hr] at hcell; cases hcell
  | some ob =>
    rw [hr] at hcell
    cases ob <;> simp only at hcell
    all_goals try cases hcell
    rename_i cs T z
    refine ⟨cur, cs, _, _, _, _, h4, hr, by omega, ?_, .inl rfl⟩
    intro h0
    have : cs[o + 0]? = none := Array.getElem?_eq_none (by omega)
    simp only [Option.isSome_none, Bool.false_eq_true, if_false] at hcell
    rw [this] at hcell; cases hcell

theorem tcode_same {kind s s' : Int} {nm : Nat} {offm R C ld : Int} {n : Nat} {off R' C' ldx : Int} {p p' : Prop} {Fm : Nat → Nat} (h1 : 1 ≤ s) (h2 : 1 ≤ s') (h : goodP nm offm R C ld → goodP n off R' C' ldx → ¬ p) (h' : goodP nm offm R C ld → goodP n off R' C' ldx → ¬ p') :
    tcode kind s nm offm R C ld n off R' C' ldx p Fm = tcode kind s' nm offm R C ld n off R' C' ldx p' Fm := by
  unfold tcode
  by_cases g1 : goodP nm offm R C ld
  · by_cases g2 : goodP n off R' C' ldx
    · have e1 := h g1 g2
      have e2 := h' g1 g2
      simp only [g1, g2, e1, e2, not_true, or_false, if_false]
      have e3 : (kind < 1 ∨ 2 < kind ∨ s < 1) ↔ (kind < 1 ∨ 2 < kind ∨ s' < 1) := by omega
      simp only [e3]
    · rw [if_pos (.inr (.inr (.inr (.inr g2)))), if_pos (.inr (.inr (.inr (.inr g2))))]
  · rw [if_pos (.inr (.inr (.inr (.inl g1)))), if_pos (.inr (.inr (.inr (.inl g1))))]
theorem tleft_same {kind s s' : Int} {nm : Nat} {offm R C ld : Int} {n : Nat} {off R' C' ldx : Int} {p p' : Prop} {Fm Fx : Nat → Nat} (h1 : 1 ≤ s) (h2 : 1 ≤ s') (h : goodP nm offm R C ld → goodP n off R' C' ldx → ¬ p) (h' : goodP nm offm R C ld → goodP n off R' C' ldx → ¬ p') :
    tleft kind s nm offm R C ld n off R' C' ldx p Fm Fx = tleft kind s' nm offm R C ld n off R' C' ldx p' Fm Fx := by
  unfold tleft
  rw [tcode_same h1 h2 h h']
/-- A list of the call's own isn't met. -/
theorem own_meets {w : World} {A : Option Addr} {nm : Nat} {Fm : Nat → Nat} {g : Nat} {off R' C' ldx offm R C ld : Int} {n : Int} (hA : LAt w A nm Fm) (hg : w.heap.size ≤ g) : goodP nm offm R C ld → goodP n off R' C' ldx → ¬ meetP (some ⟨g, 0, none⟩) off R' C' ldx A offm R C ld := by
  rintro g1 _ ⟨_, ⟨h1, h2⟩, e, _⟩
  have := last_lt g1 h1 h2
  obtain ⟨b, o, rfl, hX⟩ := hA (by omega)
  cases e
  obtain ⟨v, _, hc, _⟩ := hX.one (i := 0) (by omega)
  have hb : g < w.heap.size := World.block_lt_of_cell? w _ hc
  omega
theorem lat_lt {w : World} {A : Option Addr} {nm : Nat} {Fm : Nat → Nat} (hA : LAt w A nm Fm) (hn : 0 < nm) : ∀ b o, A = some ⟨b, o, none⟩ → b < w.heap.size := by
  intro b o e
  obtain ⟨b', o', e', hX⟩ := hA hn
  rw [e] at e'
  cases e'
  obtain ⟨v, _, hc, _⟩ := hX.one (i := 0) hn
  exact World.block_lt_of_cell? w _ hc
/-- A matrix' five cells are written. -/
def setMat (w : World) (r : Nat) (v0 v1 v2 v3 v4 : Value) : World := ((((w.setCell ⟨r, 0, none⟩ v0).setCell ⟨r, 1, none⟩ v1).setCell ⟨r, 2, none⟩ v2).setCell ⟨r, 3, none⟩ v3).setCell ⟨r, 4, none⟩ v4
theorem setMat_row {w : World} {r : Nat} {T : TypeId} {z : Nat × Nat} (h : w.heap[r]? = some (.cells zeroMat T z)) (v0 v1 v2 v3 v4 : Value) : (setMat w r v0 v1 v2 v3 v4).heap[r]? = some (.cells #[v0, v1, v2, v3, v4] T z) := by
  have := row_set (row_set (row_set (row_set (row_set h 0 v0) 1 v1) 2 v2) 3 v3) 4 v4
  exact this
theorem setMat_other {w : World} {r k : Nat} {ob : Obj} (h : w.heap[k]? = some ob) (hk : r ≠ k) (v0 v1 v2 v3 v4 : Value) : (setMat w r v0 v1 v2 v3 v4).heap[k]? = some ob :=
  row_other (row_other (row_other (row_other (row_other h hk v0) hk v1) hk v2) hk v3) hk v4
theorem OwnL.setMat {w : World} {base g c n : Nat} {F : Nat → Nat} (h : OwnL w base g c n F) {r : Nat} (hr : r ≠ g) (v0 v1 v2 v3 v4 : Value) : OwnL (setMat w r v0 v1 v2 v3 v4) base g c n F :=
  ((((h.set (a := ⟨r, 0, none⟩) hr v0).set (a := ⟨r, 1, none⟩) hr v1).set (a := ⟨r, 2, none⟩) hr v2).set (a := ⟨r, 3, none⟩) hr v3).set (a := ⟨r, 4, none⟩) hr v4
theorem below_setMat {B : Nat} {w0 w : World} (h : Below B w0 w) {r : Nat} (hr : B ≤ r) (v0 v1 v2 v3 v4 : Value) : Below B w0 (setMat w r v0 v1 v2 v3 v4) :=
  ((((h.setCell (p := ⟨r, 0, none⟩) hr v0).setCell (p := ⟨r, 1, none⟩) hr v1).setCell (p := ⟨r, 2, none⟩) hr v2).setCell (p := ⟨r, 3, none⟩) hr v3).setCell (p := ⟨r, 4, none⟩) hr v4
theorem OwnL.wr {w w1 : World} {base g c n : Nat} {F : Nat → Nat} {k : Nat} {S : Nat → Prop} (h : OwnL w base g c n F) (hw : WrB w w1 k S) (hk : g ≠ k) : OwnL w1 base g c n F := by
  obtain ⟨h1, h2, h3, ⟨cur, h4, h5⟩, h6⟩ := h
  exact ⟨h1, h2, h3, ⟨cur, hw.keep h4 hk, h5⟩, fun i hi => let ⟨u, hu, hc, hx⟩ := h6 i hi; ⟨u, hu, hw.cell hc (.inl hk), hx⟩⟩
theorem OwnL.wrote {w w1 : World} {base g c n : Nat} {F G : Nat → Nat} {S : Nat → Prop} (h : OwnL w base g c n F) (hw : WrB w w1 g S) (hG : 0 < n → XAt w1 g 0 0 1 n G) : OwnL w1 base g c n G := by
  obtain ⟨h1, h2, h3, ⟨cur, h4, h5⟩, h6⟩ := h
  obtain ⟨cs, k1, k2, _⟩ := hw.row _ _ _ h4
  refine ⟨h1, h2, h3, ⟨cs, k1, by omega⟩, fun i hi => hG (by omega) i hi⟩

set_option maxRecDepth 100000
set_option maxHeartbeats 4000000 in
theorem alike_calls (kind a b : Int) (A : Option Addr) (nm cm : Nat) (offm R C ld : Int) (A' : Option Addr) (n c : Nat) (off R' C' ldx : Int) (w : World) (Fm Fx : Nat → Nat)
    (ha : 0 ≤ a ∧ a ≤ 255) (hb : 0 ≤ b ∧ b ≤ 255) (hk : I64 kind) (m1 : I64 offm) (m2 : I64 R) (m3 : I64 C) (m4 : I64 ld) (x1 : I64 off) (x2 : I64 R') (x3 : I64 C') (x4 : I64 ldx)
    (hAm : LAt w A nm Fm) (hAx : LAt w A' n Fx) :
    Calls Try.prog 4 #[.int .i64 kind, .int .u8 a, .int .u8 b, .agg #[.slice A nm cm, .int .i64 offm, .int .i64 R, .int .i64 C, .int .i64 ld], .agg #[.slice A' n c, .int .i64 off, .int .i64 R', .int .i64 C', .int .i64 ldx]] w
      fun e w' => e = .returned (.bool true) ∧ Below w.heap.size w w' := by
  obtain ⟨ha0, ha1⟩ := ha
  obtain ⟨hb0, hb1⟩ := hb
  obtain ⟨gm, hgm⟩ : ∃ g, g = greatB nm R C := ⟨_, rfl⟩
  obtain ⟨gx, hgx⟩ : ∃ g, g = greatB n R' C' := ⟨_, rfl⟩
  have HG := Lib.hid (And.intro hgm (And.intro hgx (And.intro hAm hAx)))
  clear hgm hgx hAm hAx
  go_enter Try.func4, Try.ntmps4
  go_wp2_with fail
  refine gen_call (fun W hW => ?_)
  have hB : BL w W := by rw [hW]; repeat (first | exact Below.refl _ _ | refine Below.alloc ?_ (by first | (simp; done) | (simp; omega)) _)
  have hbm : W.heap[w.heap.size]? = some (.cells #[.slice A nm cm, .int .i64 offm, .int .i64 R, .int .i64 C, .int .i64 ld] 24 (0, 0)) := by
    rw [hW]; rw [Below.heap_alloc _ _ _ (by first | (simp; done) | (simp; omega))]; exact new_row _ _
  have hbx : W.heap[w.heap.size + 1]? = some (.cells #[.slice A' n c, .int .i64 off, .int .i64 R', .int .i64 C', .int .i64 ldx] 24 (0, 0)) := by
    rw [hW]; exact new_at _ _ (by simp)
  clear hW
  refine (awake_calls W).mono ?_
  rintro e w1 ⟨rfl, hb1'⟩
  have hB1 : BL W w1 := hb1'
  have k1 := cells_of (hB1.row hbm)
  have k2 := cells_of (hB1.row hbx)
  clear hb1'
  cases gm with
  | true =>
    go_wp2_with fail
    refine (great_calls _ _ _ _ _ _ _ _ true HG.out.1).mono ?_
    rintro e w2 ⟨rfl, hb2⟩
    go_wp2_with fail
    refine (awake_calls w2).mono ?_
    rintro e w3 ⟨rfl, hb3⟩
    go_wp2
    go_ret
    exact ⟨rfl, hB.call (BL.call hB1 (BL.call hb2 hb3))⟩
  | false =>
    go_wp2_with fail
    refine (great_calls _ _ _ _ _ _ _ _ false HG.out.1).mono ?_
    rintro e w2 ⟨rfl, hb2⟩
    have hB2 : BL W w2 := BL.call hB1 hb2
    clear k1 k2
    have k1 := cells_of (hB2.row hbm)
    have k2 := cells_of (hB2.row hbx)
    go_wp2_with fail
    refine (great_calls _ _ _ _ _ _ _ _ gx HG.out.2.1).mono ?_
    rintro e w3 ⟨rfl, hb3⟩
    have hB3 : BL W w3 := BL.call hB2 hb3
    clear k1 k2 hB1 hb2 hB2 hb3
    have hB3w : BL w w3 := BL.call hB hB3
    have q1 := hB3.row hbm
    have q2 := hB3.row hbx
    cases gx with
    | true =>
      go_wp2_with fail
      refine (awake_calls w3).mono ?_
      rintro e w4 ⟨rfl, hb4⟩
      go_wp2
      go_ret
      exact ⟨rfl, hB.call (BL.call hB3 hb4)⟩
    | false =>
      have hsm : nm ≤ 1000 ∧ R ≤ 20 ∧ C ≤ 20 := by have := HG.out.1; unfold greatB at this; have := of_decide_eq_false this.symm; omega
      have hsx : n ≤ 1000 ∧ R' ≤ 20 ∧ C' ≤ 20 := by have := HG.out.2.1; unfold greatB at this; have := of_decide_eq_false this.symm; omega
      go_wp2
      refine wp_region_free2 6 (BL w3) (fun i => if i = 1 then [0] else if i = 3 then [2] else [])
        (fun i v w' => match i with
          | 0 => v = matA A' n c off R' C' ldx
          | 1 => ∃ g c', v = matV g n c' off R' C' ldx ∧ OwnL w' w3.heap.size g c' n Fx
          | 2 => v = matA A' n c off R' C' ldx
          | 3 => ∃ g c', v = matV g n c' off R' C' ldx ∧ OwnL w' w3.heap.size g c' n Fx
          | _ => ∃ r, v = .pointer (some ⟨r, 0, none⟩) ∧ w3.heap.size ≤ r ∧ w'.heap[r]? = some (.cells zeroMat 24 (0, 0)))
        (fun i v => if i = 0 ∨ i = 2 then [] else blkOf v) (by kernel_rfl) (by kernel_rfl) (BL.refl _).drew ?_ ?_
      · intro i v w' w'' h hb
        match i, h with
        | 0, h => exact h
        | 1, ⟨g, c', h1, h2⟩ => exact ⟨g, c', h1, h2.later hb⟩
        | 2, h => exact h
        | 3, ⟨g, c', h1, h2⟩ => exact ⟨g, c', h1, h2.later hb⟩
        | (i + 4), ⟨r, h1, h2, h3⟩ => exact ⟨r, h1, h2, (show BL w' w'' from hb).row h3⟩
      · intro vs
        simp only [List.take_succ_cons, List.take_zero, List.drop_succ_cons, List.drop_zero]
        refine ob_step rfl (fun w4 hw4 _ => ?_) ?_
        · refine free_wp rfl rfl (by simp) (fun K hK => ?_)
          have k2 := cells_of (hw4.row q2)
          go_step
          exact hK _ _ ⟨hw4, Below.refl _ _, rfl, fun b hb => by cases hb⟩
        rw [put_lit]; simp only [List.set_cons_succ, List.set_cons_zero]
        refine ob_step rfl (fun w4 hw4 hd => ?_) ?_
        · have e0 := hd 0 (List.mem_singleton.2 rfl)
          simp only at e0
          rw [e0]
          unfold matA
          go_simp
          refine (apart_calls A' n c off R' C' ldx Fx w4 ((HG.out.2.2.2.later hB3w).later hw4) hsx.1).mono ?_
          rintro e w5 ⟨g, c', rfl, hO, hb5⟩
          exact ⟨_, rfl, hw4.call hb5, hb5, ⟨g, c', rfl, hO.base hw4.size⟩, fun b hb => by
            simp [blkOf] at hb; subst hb; exact ⟨hO.1, hO.lt⟩⟩
        rw [put_lit]; simp only [List.set_cons_succ, List.set_cons_zero]
        refine ob_step rfl (fun w4 hw4 _ => ?_) ?_
        · refine free_wp rfl rfl (by simp) (fun K hK => ?_)
          have k2 := cells_of (hw4.row q2)
          go_step
          exact hK _ _ ⟨hw4, Below.refl _ _, rfl, fun b hb => by cases hb⟩
        rw [put_lit]; simp only [List.set_cons_succ, List.set_cons_zero]
        refine ob_step rfl (fun w4 hw4 hd => ?_) ?_
        · have e0 := hd 2 (List.mem_singleton.2 rfl)
          simp only at e0
          rw [e0]
          unfold matA
          go_simp
          refine (apart_calls A' n c off R' C' ldx Fx w4 ((HG.out.2.2.2.later hB3w).later hw4) hsx.1).mono ?_
          rintro e w5 ⟨g, c', rfl, hO, hb5⟩
          exact ⟨_, rfl, hw4.call hb5, hb5, ⟨g, c', rfl, hO.base hw4.size⟩, fun b hb => by
            simp [blkOf] at hb; subst hb; exact ⟨hO.1, hO.lt⟩⟩
        rw [put_lit]; simp only [List.set_cons_succ, List.set_cons_zero]
        refine ob_step rfl (fun w4 hw4 _ => ?_) ?_
        · refine free_wp rfl rfl (by simp) (fun K hK => ?_)
          go_step
          exact hK _ _ ⟨hw4.call ((Below.refl _ _).alloc (Nat.le_refl _) _), (Below.refl _ _).alloc (Nat.le_refl _) _, ⟨_, rfl, hw4.size, new_row _ _⟩, fun b hb => by
            simp [blkOf] at hb; subst hb; simp⟩
        rw [put_lit]; simp only [List.set_cons_succ, List.set_cons_zero]
        refine ob_step rfl (fun w4 hw4 _ => ?_) ?_
        · refine free_wp rfl rfl (by simp) (fun K hK => ?_)
          go_step
          exact hK _ _ ⟨hw4.call ((Below.refl _ _).alloc (Nat.le_refl _) _), (Below.refl _ _).alloc (Nat.le_refl _) _, ⟨_, rfl, hw4.size, new_row _ _⟩, fun b hb => by
            simp [blkOf] at hb; subst hb; simp⟩
        rw [put_lit]; simp only [List.set_cons_succ, List.set_cons_zero]
        refine ob_end (fun w4 hw4 hψ hsep _ => ?_)
        obtain ⟨g1, c1, e1, hO1⟩ := hψ 1 (by omega)
        obtain ⟨g2, c2, e2, hO2⟩ := hψ 3 (by omega)
        obtain ⟨r1, e3, hr1, hr1'⟩ := hψ 4 (by omega)
        obtain ⟨r2, e4, hr2, hr2'⟩ := hψ 5 (by omega)
        have s12 := hsep 1 3 (by omega) (by omega) (by omega)
        have s34 := hsep 4 5 (by omega) (by omega) (by omega)
        have s13 := hsep 1 4 (by omega) (by omega) (by omega)
        have s14 := hsep 1 5 (by omega) (by omega) (by omega)
        have s23 := hsep 3 4 (by omega) (by omega) (by omega)
        have s24 := hsep 3 5 (by omega) (by omega) (by omega)
        rw [e1, e2] at s12
        rw [e3, e4] at s34
        rw [e1, e3] at s13
        rw [e1, e4] at s14
        rw [e2, e3] at s23
        rw [e2, e4] at s24
        simp [blkOf, matV] at s12 s34 s13 s14 s23 s24
        rw [e1, e2, e3, e4]
        unfold matV
        clear hψ hsep e1 e2 e3 e4
        have k4 := cells_of hr1'
        have k5 := cells_of hr2'
        have f4 : ∀ i, w4.frozen? ⟨r1, i, none⟩ = false := fun i => by simp [World.frozen?, hr1']
        have f5 : ∀ i, w4.frozen? ⟨r2, i, none⟩ = false := fun i => by simp [World.frozen?, hr2']
        have z4 := hw4.size
        have h41 : r1 < w4.heap.size := (Array.getElem?_eq_some_iff.1 hr1').1
        have h42 : r2 < w4.heap.size := (Array.getElem?_eq_some_iff.1 hr2').1
        unfold zeroMat at k4 k5
        have HO := Lib.hid (And.intro hO1 (And.intro hO2 (And.intro hr1' (And.intro hr2' (And.intro hw4 hB3w)))))
        clear hO1 hO2 hr1' hr2' hw4 hB3w
        have s34' : ¬ r2 = r1 := fun e => s34 e.symm
        go_wp2
        refine gen_world (fun W5 hW5 => ?_)
        change W5 = setMat (setMat w4 r1 _ _ _ _ _) r2 _ _ _ _ _ at hW5
        have hr1w : W5.heap[r1]? = some (.cells #[.slice (some ⟨g1, 0, none⟩) n c1, .int .i64 off, .int .i64 R', .int .i64 C', .int .i64 ldx] 24 (0, 0)) := by rw [hW5]; exact setMat_other (setMat_row HO.out.2.2.1 _ _ _ _ _) s34' _ _ _ _ _
        have hr2w : W5.heap[r2]? = some (.cells #[.slice (some ⟨g2, 0, none⟩) n c2, .int .i64 off, .int .i64 R', .int .i64 C', .int .i64 ldx] 24 (0, 0)) := by rw [hW5]; exact setMat_row (setMat_other HO.out.2.2.2.1 s34 _ _ _ _ _) _ _ _ _ _
        have hO1 : OwnL W5 w3.heap.size g1 c1 n Fx := by rw [hW5]; exact (HO.out.1.setMat (fun e => s13 e.symm) _ _ _ _ _).setMat (fun e => s14 e.symm) _ _ _ _ _
        have hO2 : OwnL W5 w3.heap.size g2 c2 n Fx := by rw [hW5]; exact (HO.out.2.1.setMat (fun e => s23 e.symm) _ _ _ _ _).setMat (fun e => s24 e.symm) _ _ _ _ _
        have hw4' : BL w3 w4 := HO.out.2.2.2.2.1
        have hB3' : BL w w3 := HO.out.2.2.2.2.2
        have hz3 : w.heap.size ≤ w3.heap.size := hB3'.size
        have hzb : w.heap.size + 1 < w3.heap.size := (Array.getElem?_eq_some_iff.1 q2).1
        have hmw : W5.heap[w.heap.size]? = some (.cells #[.slice A nm cm, .int .i64 offm, .int .i64 R, .int .i64 C, .int .i64 ld] 24 (0, 0)) := by
          rw [hW5]; exact setMat_other (setMat_other (hw4'.row q1) (by omega) _ _ _ _ _) (by omega) _ _ _ _ _
        have hBW : Below w.heap.size w W5 := by rw [hW5]; exact below_setMat (below_setMat (BL.call hB3' hw4') (by omega) _ _ _ _ _) (by omega) _ _ _ _ _
        have HW := Lib.hid (And.intro hO1 (And.intro hO2 (And.intro hBW (And.intro hr1w (And.intro hr2w hmw)))))
        have l1 := hO1.1
        have l2 := hO2.1
        clear hW5 k4 k5 f4 f5 HO q1 q2 hB3 hw4' hB3' hO1 hO2 hBW hr1w hr2w hmw z4 h41 h42
        refine wp_region_uni [0, 1, 2, 3, 4, 5, 7, 8, 9, 10, 11, 12] [6, 13, 14, 15]
          (fun w' => Below w.heap.size w w' ∧ w'.heap[r1]? = some (.cells #[.slice (some ⟨g1, 0, none⟩) n c1, .int .i64 off, .int .i64 R', .int .i64 C', .int .i64 ldx] 24 (0, 0)) ∧
            w'.heap[r2]? = some (.cells #[.slice (some ⟨g2, 0, none⟩) n c2, .int .i64 off, .int .i64 R', .int .i64 C', .int .i64 ldx] 24 (0, 0)) ∧
            w'.heap[w.heap.size]? = some (.cells #[.slice A nm cm, .int .i64 offm, .int .i64 R, .int .i64 C, .int .i64 ld] 24 (0, 0)))
          (by kernel_rfl) (by kernel_rfl) ⟨HW.out.2.2.1.drew, HW.out.2.2.2.1, HW.out.2.2.2.2.1, HW.out.2.2.2.2.2⟩ (fun c dst v a w h => by cases dst <;> exact h) ?_
        simp only [pickL, List.filterMap_cons, List.filterMap_nil, List.getElem?_cons_zero, List.getElem?_cons_succ]
        refine uni_step rfl (.int .i64 kind) (fun w' hw => ?_) ?_
        · have k1 := cells_of hw.2.1
          have k2 := cells_of hw.2.2.1
          have k3 := cells_of hw.2.2.2
          go_simp
          try (rw [IntKind.wrap_i64]; omega)
        rw [put_lit]; simp only [List.set_cons_succ, List.set_cons_zero]
        refine uni_step rfl (.int .u8 a) (fun w' hw => ?_) ?_
        · have k1 := cells_of hw.2.1
          have k2 := cells_of hw.2.2.1
          have k3 := cells_of hw.2.2.2
          go_simp
          try (rw [IntKind.wrap_i64]; omega)
        rw [put_lit]; simp only [List.set_cons_succ, List.set_cons_zero]
        refine uni_step rfl (.int .i64 a) (fun w' hw => ?_) ?_
        · have k1 := cells_of hw.2.1
          have k2 := cells_of hw.2.2.1
          have k3 := cells_of hw.2.2.2
          go_simp
          try (rw [IntKind.wrap_i64]; omega)
        rw [put_lit]; simp only [List.set_cons_succ, List.set_cons_zero]
        refine uni_step rfl (.int .i64 (1 + a)) (fun w' hw => ?_) ?_
        · have k1 := cells_of hw.2.1
          have k2 := cells_of hw.2.2.1
          have k3 := cells_of hw.2.2.2
          go_simp
          try (rw [IntKind.wrap_i64]; omega)
        rw [put_lit]; simp only [List.set_cons_succ, List.set_cons_zero]
        refine uni_step rfl (.agg #[.slice A nm cm, .int .i64 offm, .int .i64 R, .int .i64 C, .int .i64 ld]) (fun w' hw => ?_) ?_
        · have k1 := cells_of hw.2.1
          have k2 := cells_of hw.2.2.1
          have k3 := cells_of hw.2.2.2
          go_simp
          try (rw [IntKind.wrap_i64]; omega)
        rw [put_lit]; simp only [List.set_cons_succ, List.set_cons_zero]
        refine uni_step rfl (.agg #[.slice (some ⟨g1, 0, none⟩) n c1, .int .i64 off, .int .i64 R', .int .i64 C', .int .i64 ldx]) (fun w' hw => ?_) ?_
        · have k1 := cells_of hw.2.1
          have k2 := cells_of hw.2.2.1
          have k3 := cells_of hw.2.2.2
          go_simp
          try (rw [IntKind.wrap_i64]; omega)
        rw [put_lit]; simp only [List.set_cons_succ, List.set_cons_zero]
        refine uni_step rfl (.int .i64 kind) (fun w' hw => ?_) ?_
        · have k1 := cells_of hw.2.1
          have k2 := cells_of hw.2.2.1
          have k3 := cells_of hw.2.2.2
          go_simp
          try (rw [IntKind.wrap_i64]; omega)
        rw [put_lit]; simp only [List.set_cons_succ, List.set_cons_zero]
        refine uni_step rfl (.int .u8 b) (fun w' hw => ?_) ?_
        · have k1 := cells_of hw.2.1
          have k2 := cells_of hw.2.2.1
          have k3 := cells_of hw.2.2.2
          go_simp
          try (rw [IntKind.wrap_i64]; omega)
        rw [put_lit]; simp only [List.set_cons_succ, List.set_cons_zero]
        refine uni_step rfl (.int .i64 b) (fun w' hw => ?_) ?_
        · have k1 := cells_of hw.2.1
          have k2 := cells_of hw.2.2.1
          have k3 := cells_of hw.2.2.2
          go_simp
          try (rw [IntKind.wrap_i64]; omega)
        rw [put_lit]; simp only [List.set_cons_succ, List.set_cons_zero]
        refine uni_step rfl (.int .i64 (1 + b)) (fun w' hw => ?_) ?_
        · have k1 := cells_of hw.2.1
          have k2 := cells_of hw.2.2.1
          have k3 := cells_of hw.2.2.2
          go_simp
          try (rw [IntKind.wrap_i64]; omega)
        rw [put_lit]; simp only [List.set_cons_succ, List.set_cons_zero]
        refine uni_step rfl (.agg #[.slice A nm cm, .int .i64 offm, .int .i64 R, .int .i64 C, .int .i64 ld]) (fun w' hw => ?_) ?_
        · have k1 := cells_of hw.2.1
          have k2 := cells_of hw.2.2.1
          have k3 := cells_of hw.2.2.2
          go_simp
          try (rw [IntKind.wrap_i64]; omega)
        rw [put_lit]; simp only [List.set_cons_succ, List.set_cons_zero]
        refine uni_step rfl (.agg #[.slice (some ⟨g2, 0, none⟩) n c2, .int .i64 off, .int .i64 R', .int .i64 C', .int .i64 ldx]) (fun w' hw => ?_) ?_
        · have k1 := cells_of hw.2.1
          have k2 := cells_of hw.2.2.1
          have k3 := cells_of hw.2.2.2
          go_simp
          try (rw [IntKind.wrap_i64]; omega)
        rw [put_lit]; simp only [List.set_cons_succ, List.set_cons_zero]
        refine uni_end ?_
        refine rest_step rfl ?_
        go_simp
        have hAm5 := (HG.out.2.2.1.later (show BL w W5 from HW.out.2.2.1)).later (BL.refl W5).drew
        have hO1 := HW.out.1.later (BL.refl W5).drew
        have hO2 := HW.out.2.1.later (BL.refl W5).drew
        have hBd := (show BL w W5 from HW.out.2.2.1).drew
        have hgA : ∀ {g c' : Nat} {w' : World}, OwnL w' w3.heap.size g c' n Fx → 0 < nm → 0 < n → LAt w' A nm Fm → ∀ a a', A = some a → some (⟨g, 0, none⟩ : Addr) = some a' → a' ≠ a → a'.block ≠ a.block ∧ ApartOK w' a' a := fun hO l1 l2 hA a a' h1 h2 _ => by
          cases h2
          exact lat_apart hO (by have := hO.2.1; omega) hA l1 (fun b o e => Nat.lt_of_lt_of_le (lat_lt HG.out.2.2.1 l1 b o e) hz3) a h1
        have hn1 : ∀ g, w3.heap.size ≤ g → goodP nm offm R C ld → goodP n off R' C' ldx → ¬ meetP (some ⟨g, 0, none⟩) off R' C' ldx A offm R C ld := fun g hg => own_meets HG.out.2.2.1 (Nat.le_trans hz3 hg)
        have hlim : lim = 140737488355328 := lim_eq
        obtain ⟨rT, hrT⟩ : ∃ r, tcode kind 1 nm offm R C ld n off R' C' ldx False Fm = r := ⟨_, rfl⟩
        refine (tsolve_any kind (1 + a) A nm cm offm R C ld (some ⟨g1, 0, none⟩) n c1 off R' C' ldx W5.drew g1 0 Fm Fx (by omega) m1 m2 m3 m4 (by omega) x1 x2 x3 x4 (by unfold I64; omega) (by omega) hAm5 (fun _ => ⟨rfl, hO1.2.2.2.2⟩) hO1.lt (hO1.fz _) (fun l1 l2 => hgA hO1 l1 l2 hAm5)).mono ?_
        rintro e w6 ⟨rfl, hw6, hx6⟩
        rw [tcode_same (s' := 1) (p' := False) (by omega) (by omega) (hn1 g1 hO1.1) (fun _ _ h => h), hrT]
        have hx6' : 0 < n → XAt w6 g1 0 0 1 n (tleft kind 1 nm offm R C ld n off R' C' ldx False Fm Fx) := fun hn => by
          rw [← tleft_same (s := 1 + a) (s' := 1) (by omega) (by omega) (hn1 g1 hO1.1) (fun _ _ h => h)]; exact hx6 hn
        have hO1' := hO1.wrote hw6 hx6'
        have hO2' := hO2.wr hw6 (fun e => s12 e.symm)
        have hB6 : Below w.heap.size w w6 := below_wr (show Below w.heap.size w _ from hBd) hw6 (by omega)
        have p1 := hw6.keep (show W5.drew.heap[r1]? = _ from HW.out.2.2.2.1) (fun e => s13 e.symm)
        have p2 := hw6.keep (show W5.drew.heap[r2]? = _ from HW.out.2.2.2.2.1) (fun e => s14 e.symm)
        have p3 := hw6.keep (show W5.drew.heap[w.heap.size]? = _ from HW.out.2.2.2.2.2) (by omega)
        refine ⟨⟨hB6, p1, p2, p3⟩, ?_⟩
        have HZ := Lib.hid (And.intro hO1' (And.intro hO2' (And.intro hB6 (And.intro p1 (And.intro p2 p3)))))
        clear hx6 hx6' hw6 hO1 hO2 hAm5 hBd hO1' hO2' hB6 p1 p2 p3
        refine rest_step rfl ?_
        go_simp
        have hAm6 := HG.out.2.2.1.later (show BL w w6 from HZ.out.2.2.1)
        have hO1 := HZ.out.1
        have hO2 := HZ.out.2.1
        refine (tsolve_any kind (1 + b) A nm cm offm R C ld (some ⟨g2, 0, none⟩) n c2 off R' C' ldx w6 g2 0 Fm Fx (by omega) m1 m2 m3 m4 (by omega) x1 x2 x3 x4 (by unfold I64; omega) (by omega) hAm6 (fun _ => ⟨rfl, hO2.2.2.2.2⟩) hO2.lt (hO2.fz _) (fun l1 l2 => hgA hO2 l1 l2 hAm6)).mono ?_
        rintro e w7 ⟨rfl, hw7, hx7⟩
        rw [tcode_same (s' := 1) (p' := False) (by omega) (by omega) (hn1 g2 hO2.1) (fun _ _ h => h), hrT]
        have hx7' : 0 < n → XAt w7 g2 0 0 1 n (tleft kind 1 nm offm R C ld n off R' C' ldx False Fm Fx) := fun hn => by
          rw [← tleft_same (s := 1 + b) (s' := 1) (by omega) (by omega) (hn1 g2 hO2.1) (fun _ _ h => h)]; exact hx7 hn
        have hO1' := hO1.wr hw7 s12
        have hO2' := hO2.wrote hw7 hx7'
        have hB7 : Below w.heap.size w w7 := below_wr HZ.out.2.2.1 hw7 (by omega)
        have p1 := hw7.keep HZ.out.2.2.2.1 (fun e => s23 e.symm)
        have p2 := hw7.keep HZ.out.2.2.2.2.1 (fun e => s24 e.symm)
        have p3 := hw7.keep HZ.out.2.2.2.2.2 (by omega)
        refine ⟨⟨hB7, p1, p2, p3⟩, ?_⟩
        refine rest_val rfl (.int .i64 rT) (by go_simp) ⟨hB7, p1, p2, p3⟩ ?_
        rw [put_lit]; simp only [List.set_cons_succ, List.set_cons_zero]
        refine rest_val rfl (.int .i64 rT) (by go_simp) ⟨hB7, p1, p2, p3⟩ ?_
        rw [put_lit]; simp only [List.set_cons_succ, List.set_cons_zero]
        refine rest_end ?_
        have HY := Lib.hid (And.intro hO1' (And.intro hO2' hB7))
        have k1 := cells_of p1
        have k2 := cells_of p2
        clear hx7 hx7' hw7 hO1 hO2 hAm6 hO1' hO2' hB7 p1 p2 p3
        go_wp2_with fail
        refine (all_calls (some ⟨g1, 0, none⟩) (some ⟨g2, 0, none⟩) n c1 n c2 _ _ w7 HY.out.1.lat HY.out.2.1.lat (by unfold maxLen; omega) (by unfold maxLen; omega) true ⟨fun _ => ⟨rfl, fun _ _ => rfl⟩, fun _ => rfl⟩).mono ?_
        rintro e w8 ⟨rfl, hb8⟩
        go_wp2_with fail
        refine (awake_calls w8).mono ?_
        rintro e w9 ⟨rfl, hb9⟩
        go_wp2
        go_ret
        exact ⟨rfl, BL.call (show BL w w7 from HY.out.2.2) (BL.call hb8 hb9)⟩
end Go.Proofs.Ytapilgbbkbfcbaa
