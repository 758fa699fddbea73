/- Triangular systems, plainly: what is taken away from each number, in order. No program here. -/
import Derived.Test.YtapilgbbkbfcbaaFlt
namespace Go.Proofs.Ytapilgbbkbfcbaa

def upd (x : Nat → Nat) (i v : Nat) : Nat → Nat := fun k => if k = i then v else x k
/-- From the numbers a to b (b not) is taken what the column j has there times number j. -/
def elim (M : Nat → Nat → Nat) (j a b : Nat) (x : Nat → Nat) : Nat → Nat := fun k => if a ≤ k ∧ k < b then fsub (x k) (fmul (M k j) (x j)) else x k
def lowN (M : Nat → Nat → Nat) (n : Nat) : Nat → (Nat → Nat) → (Nat → Nat)
  | 0, x => x
  | j + 1, x => elim M j (j + 1) n (lowN M n j x)
def upN (M : Nat → Nat → Nat) (n : Nat) : Nat → (Nat → Nat) → (Nat → Nat)
  | 0, x => x
  | t + 1, x => elim M (n - 1 - t) 0 (n - 1 - t) (upd (upN M n t x) (n - 1 - t) (fdiv (upN M n t x (n - 1 - t)) (M (n - 1 - t) (n - 1 - t))))
/-- Number i, less what the row i of the matrix turned about has at a, a + 1, .. times the numbers there. -/
def dotN (M : Nat → Nat → Nat) (i a : Nat) : Nat → (Nat → Nat) → Nat
  | 0, x => x i
  | t + 1, x => fsub (dotN M i a t x) (fmul (M (a + t) i) (x (a + t)))
def lowTN (M : Nat → Nat → Nat) (n : Nat) : Nat → (Nat → Nat) → (Nat → Nat)
  | 0, x => x
  | t + 1, x => upd (lowTN M n t x) (n - 1 - t) (dotN M (n - 1 - t) (n - t) t (lowTN M n t x))
def upTN (M : Nat → Nat → Nat) (n : Nat) : Nat → (Nat → Nat) → (Nat → Nat)
  | 0, x => x
  | i + 1, x => upd (upTN M n i x) i (fdiv (dotN M i 0 i (upTN M n i x)) (M i i))

theorem elim_none (M : Nat → Nat → Nat) (j a : Nat) (x : Nat → Nat) : elim M j a a x = x := by
  funext k; unfold elim; rw [if_neg (by omega)]
theorem elim_more (M : Nat → Nat → Nat) (j a i : Nat) (x : Nat → Nat) (hi : a ≤ i) (hj : j < a ∨ i < j) :
    elim M j a (i + 1) x = upd (elim M j a i x) i (fsub (elim M j a i x i) (fmul (M i j) (elim M j a i x j))) := by
  funext k
  unfold elim upd
  dsimp only
  by_cases h : k = i
  · subst h
    rw [if_pos (by omega), if_pos rfl, if_neg (by omega), if_neg (by omega)]
  · rw [if_neg h]
    by_cases h2 : a ≤ k ∧ k < i
    · rw [if_pos (by omega), if_pos h2]
    · rw [if_neg (by omega), if_neg h2]
theorem upd_self (x : Nat → Nat) (i : Nat) : upd x i (x i) = x := by
  funext k; unfold upd; split
  · rename_i h; rw [h]
  · rfl
theorem upd_upd (x : Nat → Nat) (i a b : Nat) : upd (upd x i a) i b = upd x i b := by
  funext k; unfold upd; split <;> rfl
theorem upd_at (x : Nat → Nat) (i a : Nat) : upd x i a i = a := by simp [upd]
theorem upd_ne (x : Nat → Nat) (i a k : Nat) (h : k ≠ i) : upd x i a k = x k := by simp [upd, h]
theorem dot_more (M : Nat → Nat → Nat) (i a k : Nat) (x : Nat → Nat) (h : a ≤ k) : dotN M i a (k + 1 - a) x = fsub (dotN M i a (k - a) x) (fmul (M k i) (x k)) := by
  rw [show k + 1 - a = (k - a) + 1 by omega]
  show fsub _ (fmul (M (a + (k - a)) i) (x (a + (k - a)))) = _
  rw [show a + (k - a) = k by omega]
end Go.Proofs.Ytapilgbbkbfcbaa
