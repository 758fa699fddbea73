/- Places of matrices, columns and parts: plain laws. -/
import Derived.Test.YtapilgbbkbfcbaaG4
namespace Go.Proofs.Ytapilgbbkbfcbaa
open Go Go.RowKit

/-- A matrix' places. -/
def MS (o : Nat) (off ld : Int) (R C : Nat) (p : Nat) : Prop := ∃ i j : Nat, i < R ∧ j < C ∧ p = o + (off + (i : Int) + (j : Int) * ld).toNat
/-- A stretch of places within another one. -/
def SubSpan (off R C ld off2 R2 C2 ld2 : Int) : Prop := 0 < R2 → 0 < C2 → 0 < R ∧ 0 < C ∧ off ≤ off2 ∧ lastOf off2 R2 C2 ld2 ≤ lastOf off R C ld
theorem SubSpan.refl (off R C ld : Int) : SubSpan off R C ld off R C ld := fun h1 h2 => ⟨h1, h2, Int.le_refl _, Int.le_refl _⟩
theorem SubSpan.trans {off R C ld off2 R2 C2 ld2 off3 R3 C3 ld3 : Int} (h : SubSpan off R C ld off2 R2 C2 ld2) (k : SubSpan off2 R2 C2 ld2 off3 R3 C3 ld3) : SubSpan off R C ld off3 R3 C3 ld3 := by
  intro h1 h2
  obtain ⟨a, b, c, d⟩ := k h1 h2
  obtain ⟨a', b', c', d'⟩ := h a b
  exact ⟨a', b', by omega, by omega⟩
theorem meet_sub {A A' : Option Addr} {off R C ld off2 R2 C2 ld2 off' R' C' ld' off2' R2' C2' ld2' : Int} (h : ¬ meetP A off R C ld A' off' R' C' ld') (s : SubSpan off R C ld off2 R2 C2 ld2) (s' : SubSpan off' R' C' ld' off2' R2' C2' ld2') :
    ¬ meetP A off2 R2 C2 ld2 A' off2' R2' C2' ld2' := by
  rintro ⟨⟨a, b⟩, ⟨c, d⟩, e, f, g⟩
  obtain ⟨a1, b1, c1, d1⟩ := s a b
  obtain ⟨a2, b2, c2, d2⟩ := s' c d
  exact h ⟨⟨a1, b1⟩, ⟨a2, b2⟩, e, by omega, by omega⟩
theorem sub_col {off R C ld j : Int} (hj : 0 ≤ j) (hj' : j < C) (hld : 1 ≤ ld) : SubSpan off R C ld (colOff off R ld j) 1 R 1 := by
  intro _ h2
  have h3 : 0 ≤ (C - 1 - j) * ld := Int.mul_nonneg (by omega) (by omega)
  have h4 : 0 ≤ j * ld := Int.mul_nonneg (by omega) (by omega)
  rw [Int.sub_mul] at h3
  unfold colOff lastOf
  rw [if_pos h2]
  omega
theorem sub_part {off R C ld i j r k : Int} (hi : 0 ≤ i) (hj : 0 ≤ j) (hir : i + r ≤ R) (hjk : j + k ≤ C) (hld : 1 ≤ ld) : SubSpan off R C ld (partOff off ld i j r k) r k ld := by
  intro h1 h2
  have h3 : 0 ≤ (C - j - k) * ld := Int.mul_nonneg (by omega) (by omega)
  have h4 : 0 ≤ j * ld := Int.mul_nonneg (by omega) (by omega)
  simp only [Int.sub_mul] at h3
  unfold partOff lastOf
  rw [if_pos ⟨h1, h2⟩]
  simp only [Int.sub_mul]
  omega
theorem right_col {n off R C ld j : Int} (hg : goodP n off R C ld) (hj : 0 ≤ j) (hj' : j < C) : rightP n (colOff off R ld j) R 1 := by
  have hR := hg.1
  have hoff := hg.2.2.1
  unfold colOff rightP fitsP
  by_cases h : 0 < R
  · obtain ⟨q1, q2, q3, q4⟩ := good_at (i := R - 1) (j := j) hg (by omega) (by omega) hj hj'
    rw [if_pos h]
    rw [Int.ediv_one]
    omega
  · rw [if_neg h]
    omega
theorem i64_col {n : Nat} {off R C ld j : Int} (hs : (n : Int) ≤ lim) (h1 : I64 off) (hg : goodP n off R C ld) (hj : 0 ≤ j) (hj' : j < C) : I64 (colOff off R ld j) := by
  unfold lim at hs
  unfold colOff
  by_cases h : 0 < R
  · obtain ⟨q1, q2, q3, q4⟩ := good_at (i := 0) (j := j) hg (by omega) (by omega) hj hj'
    rw [if_pos h]; unfold I64; omega
  · rw [if_neg h]; exact h1
theorem good_part {n off R C ld i j r k : Int} (hg : goodP n off R C ld) (hi : 0 ≤ i) (hj : 0 ≤ j) (hr : 0 ≤ r) (hk : 0 ≤ k) (hir : i + r ≤ R) (hjk : j + k ≤ C) : goodP n (partOff off ld i j r k) r k ld := by
  have hoff := hg.2.2.1
  have hld := hg.2.2.2.1
  have hRl := hg.2.2.2.2.1
  unfold partOff
  by_cases h : 0 < r ∧ 0 < k
  · obtain ⟨q1, q2, q3, q4⟩ := good_at (i := i + r - 1) (j := j + k - 1) hg (by omega) (by omega) (by omega) (by omega)
    have h4 : 0 ≤ j * ld := Int.mul_nonneg (by omega) (by omega)
    have h5 : 0 ≤ (k - 1) * ld := Int.mul_nonneg (by omega) (by omega)
    have h6 : (j + k - 1) * ld = j * ld + (k - 1) * ld := by rw [← Int.add_mul]; congr 1; omega
    rw [if_pos h]
    refine ⟨hr, hk, by omega, hld, by omega, .inr (.inr ⟨by omega, by omega, by omega, ?_⟩)⟩
    exact (Int.le_ediv_iff_mul_le (by omega)).2 (by omega)
  · rw [if_neg h]
    exact ⟨hr, hk, hoff, hld, by omega, by omega⟩
theorem i64_part {n : Nat} {off R C ld i j r k : Int} (hs : (n : Int) ≤ lim) (h1 : I64 off) (hg : goodP n off R C ld) (hi : 0 ≤ i) (hj : 0 ≤ j) (hir : i + r ≤ R) (hjk : j + k ≤ C) : I64 (partOff off ld i j r k) := by
  unfold lim at hs
  unfold partOff
  by_cases h : 0 < r ∧ 0 < k
  · obtain ⟨q1, q2, q3, q4⟩ := good_at (i := i) (j := j) hg (by omega) (by omega) (by omega) (by omega)
    rw [if_pos h]; unfold I64; omega
  · rw [if_neg h]; exact h1
/-- Places of what doesn't meet. -/
theorem sep_of_meet {n n' : Int} {bm om b o : Nat} {offm ld off inc : Int} {R C N : Nat} (hsame : bm = b → om = o) (hg : goodP n offm R C ld) (hr : rightP n' off N inc)
    (h : ¬ meetP (some ⟨b, o, none⟩) off 1 N inc (some ⟨bm, om, none⟩) offm R C ld) : MXSep bm om offm ld R C b o off inc N := by
  intro i j k hi hj hk hb
  have ho := hsame hb
  subst hb ho
  intro e
  obtain ⟨q1, q2, q3, q4⟩ := good_at (i := i) (j := j) hg (by omega) (by omega) (by omega) (by omega)
  obtain ⟨r1, r2, r3, r4⟩ := right_at (i := k) hr (by omega) (by omega)
  have hld := hg.2.2.2.1
  have h5 : 0 ≤ ((C : Int) - 1 - j) * ld := Int.mul_nonneg (by omega) (by omega)
  have h6 : 0 ≤ ((N : Int) - 1 - k) * inc := Int.mul_nonneg (by omega) (by omega)
  simp only [Int.sub_mul] at h5 h6
  refine h ⟨⟨by omega, by omega⟩, ⟨by omega, by omega⟩, rfl, ?_, ?_⟩ <;> unfold lastOf <;> simp only [Int.sub_mul] <;> omega
theorem xsep_of_meet {n n' : Int} {bx ox b o : Nat} {offx incx off inc : Int} {C N : Nat} (hsame : bx = b → ox = o) (hg : rightP n offx C incx) (hr : rightP n' off N inc)
    (h : ¬ meetP (some ⟨b, o, none⟩) off 1 N inc (some ⟨bx, ox, none⟩) offx 1 C incx) : XXSep bx ox offx incx C b o off inc N := by
  intro i k hi hk hb
  have ho := hsame hb
  subst hb ho
  intro e
  obtain ⟨q1, q2, q3, q4⟩ := right_at (i := i) hg (by omega) (by omega)
  obtain ⟨r1, r2, r3, r4⟩ := right_at (i := k) hr (by omega) (by omega)
  have h5 : 0 ≤ ((C : Int) - 1 - i) * incx := Int.mul_nonneg (by omega) (by omega)
  have h6 : 0 ≤ ((N : Int) - 1 - k) * inc := Int.mul_nonneg (by omega) (by omega)
  simp only [Int.sub_mul] at h5 h6
  refine h ⟨⟨by omega, by omega⟩, ⟨by omega, by omega⟩, rfl, ?_, ?_⟩ <;> unfold lastOf <;> simp only [Int.sub_mul] <;> omega

/-- A column of numbers is put into a table. -/
def setCol (X : Nat → Nat → Nat) (j : Nat) (Y : Nat → Nat) : Nat → Nat → Nat := fun i k => if k = j then Y i else X i k
theorem MAt.col {w : World} {b o : Nat} {off ld : Int} {R C : Nat} {X : Nat → Nat → Nat} (h : MAt w b o off ld R C X) {j : Nat} (hj : j < C) : XAt w b o (colOff off R ld j) 1 R (fun i => X i j) := by
  intro k hk
  obtain ⟨v, hv, hc, hx⟩ := h k j hk hj
  refine ⟨v, hv, ?_, hx⟩
  rw [show colOff off R ld j = off + j * ld from if_pos (by omega), Int.mul_one, show off + (j : Int) * ld + (k : Int) = off + (k : Int) + (j : Int) * ld by omega]
  exact hc
theorem col_places {o : Nat} {off ld : Int} {R C j : Nat} (hj : j < C) {p : Nat} (h : XS o (colOff off R ld j) 1 R p) : MS o off ld R C p := by
  obtain ⟨i, hi, e⟩ := h
  refine ⟨i, j, hi, hj, ?_⟩
  rw [e, show colOff off R ld j = off + j * ld from if_pos (by omega), Int.mul_one, show off + (j : Int) * ld + (i : Int) = off + (i : Int) + (j : Int) * ld by omega]
theorem place_ne {off ld : Int} {R i j i' j' : Nat} (ho : 0 ≤ off) (hR : (R : Int) ≤ ld) (hi : i < R) (hi' : i' < R) (h : j ≠ j' ∨ i ≠ i') : (off + (i : Int) + (j : Int) * ld).toNat ≠ (off + (i' : Int) + (j' : Int) * ld).toNat := by
  intro e
  have a1 : 0 ≤ (j : Int) * ld := Int.mul_nonneg (by omega) (by omega)
  have a2 : 0 ≤ (j' : Int) * ld := Int.mul_nonneg (by omega) (by omega)
  have e2 : (i : Int) + (j : Int) * ld = (i' : Int) + (j' : Int) * ld := by omega
  by_cases hj : j = j'
  · subst hj; omega
  · rcases Nat.lt_or_gt_of_ne hj with hl | hl
    · have : 0 ≤ ((j' : Int) - j - 1) * ld := Int.mul_nonneg (by omega) (by omega)
      simp only [Int.sub_mul] at this
      omega
    · have : 0 ≤ ((j : Int) - j' - 1) * ld := Int.mul_nonneg (by omega) (by omega)
      simp only [Int.sub_mul] at this
      omega
theorem MAt.put_col {w w1 : World} {b o : Nat} {off ld : Int} {R C : Nat} {X : Nat → Nat → Nat} {Y : Nat → Nat} (h : MAt w b o off ld R C X) (ho : 0 ≤ off) (hR : (R : Int) ≤ ld) {j : Nat}
    (hw : WrB w w1 b (XS o (colOff off R ld j) 1 R)) (hY : XAt w1 b o (colOff off R ld j) 1 R Y) : MAt w1 b o off ld R C (setCol X j Y) := by
  intro i k hi hk
  unfold setCol
  by_cases hkj : k = j
  · subst hkj
    obtain ⟨v, hv, hc, hx⟩ := hY i hi
    refine ⟨v, hv, ?_, by rw [if_pos rfl]; exact hx⟩
    rw [show colOff off R ld k = off + k * ld from if_pos (by omega), Int.mul_one, show off + (k : Int) * ld + (i : Int) = off + (i : Int) + (k : Int) * ld by omega] at hc
    exact hc
  · obtain ⟨v, hv, hc, hx⟩ := h i k hi hk
    refine ⟨v, hv, hw.cell hc (.inr ?_), by rw [if_neg hkj]; exact hx⟩
    rintro ⟨i', hi', e⟩
    rw [show colOff off R ld j = off + j * ld from if_pos (by omega), Int.mul_one, show off + (j : Int) * ld + (i' : Int) = off + (i' : Int) + (j : Int) * ld by omega] at e
    exact place_ne ho hR hi hi' (.inl hkj) (by omega)
theorem MAt.keepS {w w1 : World} {bm om : Nat} {offm ld : Int} {R C : Nat} {M : Nat → Nat → Nat} {b : Nat} {S : Nat → Prop} (h : MAt w bm om offm ld R C M) (hw : WrB w w1 b S) (hs : bm = b → ∀ p, MS om offm ld R C p → ¬ S p) : MAt w1 bm om offm ld R C M :=
  fun i j hi hj => let ⟨v, hv, hc, hx⟩ := h i j hi hj; ⟨v, hv, hw.cell hc (by
    by_cases hb : bm = b
    · exact .inr (hs hb _ ⟨i, j, hi, hj, rfl⟩)
    · exact .inl hb), hx⟩
theorem DiagOK.of_mat {w : World} {b o : Nat} {off ld : Int} {N : Nat} {M : Nat → Nat → Nat} (h : MAt w b o off ld N N M) (hd : ∀ k, k < N → feq (M k k) 0 = false) : DiagOK w b o off N ld := by
  intro k hk
  obtain ⟨v, hv, hc, hx⟩ := h k k (by omega) (by omega)
  exact ⟨v, hc, by rw [← feq_cn, hx, show cn 0 = 0 by decide]; exact hd k (by omega)⟩
end Go.Proofs.Ytapilgbbkbfcbaa
