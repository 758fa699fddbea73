/- Parts of tables as they stand in memory: plain laws. -/
import Derived.Test.YtapilgbbkbfcbaaR4
import Derived.Test.YtapilgbbkbfcbaaQ1
namespace Go.Proofs.Ytapilgbbkbfcbaa
open Go Go.RowKit

theorem MAt.congr {w : World} {b o : Nat} {off ld : Int} {R C : Nat} {X Y : Nat → Nat → Nat} (h : MAt w b o off ld R C X) (he : ∀ i j, i < R → j < C → X i j = Y i j) : MAt w b o off ld R C Y :=
  fun i j hi hj => let ⟨v, hv, hc, hx⟩ := h i j hi hj; ⟨v, hv, hc, hx.trans (he i j hi hj)⟩
theorem MAt.nrm {w : World} {b o : Nat} {off ld : Int} {R C : Nat} {X : Nat → Nat → Nat} (h : MAt w b o off ld R C X) {i j : Nat} (hi : i < R) (hj : j < C) : nrm (X i j) := by
  obtain ⟨v, hv, _, hx⟩ := h i j hi hj
  rw [← hx]; exact nrm_cn hv
/-- A part's place is the whole's. -/
theorem part_at {off ld : Int} {r k : Nat} (i j a c : Nat) (ha : a < r) (hc : c < k) : partOff off ld i j r k + (a : Int) + (c : Int) * ld = off + ((i + a : Nat) : Int) + ((j + c : Nat) : Int) * ld := by
  unfold partOff
  rw [if_pos ⟨by omega, by omega⟩, Int.natCast_add, Int.natCast_add, Int.add_mul]
  omega
theorem MAt.part {w : World} {b o : Nat} {off ld : Int} {R C : Nat} {X : Nat → Nat → Nat} (h : MAt w b o off ld R C X) (i j r k : Nat) (hi : i + r ≤ R) (hj : j + k ≤ C) : MAt w b o (partOff off ld i j r k) ld r k (fun a c => X (i + a) (j + c)) := by
  intro a c ha hc
  obtain ⟨v, hv, hcell, hx⟩ := h (i + a) (j + c) (by omega) (by omega)
  exact ⟨v, hv, by rw [part_at i j a c ha hc]; exact hcell, hx⟩
theorem part_places {o : Nat} {off ld : Int} {R C i j r k : Nat} (hi : i + r ≤ R) (hj : j + k ≤ C) {p : Nat} (h : MS o (partOff off ld i j r k) ld r k p) : MS o off ld R C p := by
  obtain ⟨a, c, ha, hc, e⟩ := h
  exact ⟨i + a, j + c, by omega, by omega, by rw [e, part_at i j a c ha hc]⟩
/-- A part is written anew. -/
def setPart (X : Nat → Nat → Nat) (i j r k : Nat) (Y : Nat → Nat → Nat) : Nat → Nat → Nat := fun a c => if i ≤ a ∧ a < i + r ∧ j ≤ c ∧ c < j + k then Y (a - i) (c - j) else X a c
theorem MAt.put_part {w w1 : World} {b o : Nat} {off ld : Int} {R C : Nat} {X Y : Nat → Nat → Nat} (h : MAt w b o off ld R C X) (ho : 0 ≤ off) (hR : (R : Int) ≤ ld) (i j r k : Nat) (hi : i + r ≤ R) (hj : j + k ≤ C)
    (hw : WrB w w1 b (MS o (partOff off ld i j r k) ld r k)) (hY : MAt w1 b o (partOff off ld i j r k) ld r k Y) : MAt w1 b o off ld R C (setPart X i j r k Y) := by
  intro a c ha hc
  unfold setPart
  by_cases hin : i ≤ a ∧ a < i + r ∧ j ≤ c ∧ c < j + k
  · rw [if_pos hin]
    obtain ⟨v, hv, hcell, hx⟩ := hY (a - i) (c - j) (by omega) (by omega)
    refine ⟨v, hv, ?_, hx⟩
    rw [part_at i j (a - i) (c - j) (by omega) (by omega), show i + (a - i) = a by omega, show j + (c - j) = c by omega] at hcell
    exact hcell
  · rw [if_neg hin]
    obtain ⟨v, hv, hcell, hx⟩ := h a c ha hc
    refine ⟨v, hv, hw.cell hcell (.inr ?_), hx⟩
    rintro ⟨a', c', ha', hc', e⟩
    rw [part_at i j a' c' ha' hc'] at e
    exact place_ne (j := c) (j' := j + c') (i := a) (i' := i + a') ho hR ha (by omega) (by omega) (by omega)
/-- Parts of different rows: no place of one is the other's. -/
theorem part_sep {o : Nat} {off ld : Int} {R C i j r k i' j' r' k' : Nat} (ho : 0 ≤ off) (hR : (R : Int) ≤ ld) (hi : i + r ≤ R) (hj : j + k ≤ C) (hi' : i' + r' ≤ R) (hj' : j' + k' ≤ C) (hd : i + r ≤ i' ∨ i' + r' ≤ i) :
    ∀ p, MS o (partOff off ld i j r k) ld r k p → ¬ MS o (partOff off ld i' j' r' k') ld r' k' p := by
  rintro p ⟨a, c, ha, hc, e⟩ ⟨a', c', ha', hc', e'⟩
  rw [part_at i j a c ha hc] at e
  rw [part_at i' j' a' c' ha' hc'] at e'
  exact place_ne (j := j + c) (j' := j' + c') (i := i + a) (i' := i' + a') ho hR (by omega) (by omega) (by omega) (by omega)
/-- The same column of parts of different rows. -/
theorem part_cols {A : Option Addr} {off ld : Int} {i r i' r' k c : Nat} (hc : c < k) (hd : i + r ≤ i' ∨ i' + r' ≤ i) :
    ¬ meetP A (colOff (partOff off ld i 0 r k) r ld c) 1 r 1 A (colOff (partOff off ld i' 0 r' k) r' ld c) 1 r' 1 := by
  rintro ⟨⟨_, h1⟩, ⟨_, h2⟩, _, h3, h4⟩
  unfold lastOf at h3 h4
  rw [show colOff (partOff off ld i 0 r k) r ld c = off + (i : Int) + (c : Int) * ld by unfold colOff partOff; rw [if_pos (by omega), if_pos (by omega)]; omega,
    show colOff (partOff off ld i' 0 r' k) r' ld c = off + (i' : Int) + (c : Int) * ld by unfold colOff partOff; rw [if_pos (by omega), if_pos (by omega)]; omega] at h3 h4
  omega
/-- Columns of a table that is turned in some rows. -/
theorem set_cols (f : Nat → (Nat → Nat) → Nat → Nat) (X : Nat → Nat → Nat) (i r C : Nat) {a c : Nat} (hc : c < C) : setPart X i 0 r C (colsN f C (fun a c => X (i + a) (0 + c))) a c = blkIn (f c) i r (fun a => X a c) a := by
  unfold setPart blkIn colsN
  by_cases h : i ≤ a ∧ a < i + r
  · rw [if_pos ⟨h.1, h.2, by omega, by omega⟩, if_pos h, if_pos (by omega)]
    simp only [Nat.zero_add, Nat.sub_zero]
  · rw [if_neg (by omega), if_neg h]
theorem blkIn_congr {f : (Nat → Nat) → Nat → Nat} {i r : Nat} {x y : Nat → Nat} {a : Nat} (hf : ∀ z z' : Nat → Nat, (∀ t, t < r → z t = z' t) → ∀ t, t < r → f z t = f z' t) (h : ∀ t, i ≤ t → t < i + r → x t = y t) (ha : x a = y a) : blkIn f i r x a = blkIn f i r y a := by
  unfold blkIn
  by_cases hin : i ≤ a ∧ a < i + r
  · rw [if_pos hin, if_pos hin]; exact hf _ _ (fun t ht => h _ (by omega) (by omega)) _ (by omega)
  · rw [if_neg hin, if_neg hin]; exact ha
end Go.Proofs.Ytapilgbbkbfcbaa
