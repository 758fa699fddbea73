/- Where a number is cut, plainly. No program here. -/
import Derived.Test.YtapilgbbkbfcbaaR4
import Derived.Sort.OwnSortedInts
import Derived.Sort.Grow
import Derived.Lib.OwnBridge
import Derived.Lib.SlicesCompact
namespace Go.Proofs.Ytapilgbbkbfcbaa
open Go Go.RowKit

/-- The first k multiples. -/
def pts (s k : Nat) : List Int := (List.range k).map fun i => ((i * s : Nat) : Int)
theorem pts_len (s k : Nat) : (pts s k).length = k := by simp [pts]
theorem pts_more (s k : Nat) : pts s (k + 1) = pts s k ++ [((k * s : Nat) : Int)] := by simp [pts, List.range_succ]
/-- What is cut, in order. -/
def cutsL (n s k : Nat) : List Int := pts s k ++ [(n : Int)]
theorem cutsL_inc {n s k : Nat} (hs : 1 ≤ s) (hm : (k - 1) * s < n) : (cutsL n s k).Pairwise (· < ·) := by
  unfold cutsL
  rw [List.pairwise_append]
  refine ⟨?_, by simp, ?_⟩
  · unfold pts
    rw [List.pairwise_map]
    refine List.Pairwise.imp (fun {a b} h => ?_) List.pairwise_lt_range
    have : a * s < b * s := Nat.mul_lt_mul_of_pos_right h hs
    omega
  · intro a ha b hb
    simp only [pts, List.mem_map, List.mem_range] at ha
    simp only [List.mem_singleton] at hb
    obtain ⟨i, hi, rfl⟩ := ha
    subst hb
    have : i * s ≤ (k - 1) * s := Nat.mul_le_mul_right s (by omega)
    omega
theorem sort_cuts {n s k : Nat} (hs : 1 ≤ s) (hm : (k - 1) * s < n) : (((n : Int) :: pts s k).mergeSort fun x y => decide (x ≤ y)) = cutsL n s k := by
  have hp : (((n : Int) :: pts s k).mergeSort fun x y => decide (x ≤ y)).Perm (cutsL n s k) :=
    (List.mergeSort_perm _ _).trans (by unfold cutsL; exact (List.perm_append_singleton _ _).symm)
  have h1 : (((n : Int) :: pts s k).mergeSort fun x y => decide (x ≤ y)).Pairwise (fun x y => decide (x ≤ y) = true) :=
    List.pairwise_mergeSort (fun a b c h1 h2 => by simp only [decide_eq_true_eq] at *; omega) (fun a b => by simp only [Bool.or_eq_true, decide_eq_true_eq]; omega) _
  have h2 : (cutsL n s k).Pairwise (fun x y => decide (x ≤ y) = true) := (cutsL_inc hs hm).imp fun h => by simp only [decide_eq_true_eq]; omega
  exact List.Perm.eq_of_pairwise (fun a b _ _ h1 h2 => by simp only [decide_eq_true_eq] at h1 h2; omega) h1 h2 hp
theorem compact_inc (l : List Int) (h : l.Pairwise (· < ·)) : Lib.compact l = l := by
  have hk : ∀ i ∈ List.range l.length, Lib.keeps l.toArray i = true := by
    intro i hi
    rw [List.mem_range] at hi
    unfold Lib.keeps
    by_cases h0 : i = 0
    · simp [h0]
    · have := List.pairwise_iff_getElem.1 h (i - 1) i (by omega) hi (by omega)
      simp [h0, getElem!_pos, hi, show i - 1 < l.length by omega]
      omega
  unfold Lib.compact Lib.compactUpTo
  rw [List.filter_eq_self.2 hk]
  refine List.ext_getElem (by simp) (fun i h1 h2 => ?_)
  simp [getElem!_pos, h2]
/-- The i-th place of a cut. -/
def cutAt (n s k i : Nat) : Nat := if i < k then i * s else n
theorem cutsL_get {n s k i : Nat} (hi : i ≤ k) : (cutsL n s k)[i]? = some ((cutAt n s k i : Nat) : Int) := by
  unfold cutsL cutAt
  by_cases h : i < k
  · rw [List.getElem?_append_left (by rw [pts_len]; exact h), if_pos h]
    simp [pts, h]
  · have : i = k := by omega
    subst this
    rw [List.getElem?_append_right (by rw [pts_len]; omega), pts_len, if_neg (by omega)]
    simp
/-- The first i blocks: where each begins, and how many there are. -/
def blkL (n s k i : Nat) : List (Nat × Nat) := (List.range i).map fun t => (cutAt n s k t, cutAt n s k (t + 1) - cutAt n s k t)
theorem blkL_more (n s k i : Nat) : blkL n s k (i + 1) = blkL n s k i ++ [(cutAt n s k i, cutAt n s k (i + 1) - cutAt n s k i)] := by simp [blkL, List.range_succ]
def flatB (l : List (Nat × Nat)) : List Value := l.flatMap fun p => [.int .i64 ((p.1 : Nat) : Int), .int .i64 ((p.2 : Nat) : Int)]
theorem flatB_append (a b : List (Nat × Nat)) : flatB (a ++ b) = flatB a ++ flatB b := by simp [flatB]
theorem cutAt_lt {n s k i : Nat} (hs : 1 ≤ s) (hm : (k - 1) * s < n) (hi : i < k) : cutAt n s k i < cutAt n s k (i + 1) := by
  unfold cutAt
  rw [if_pos hi]
  by_cases h : i + 1 < k
  · rw [if_pos h]; exact Nat.mul_lt_mul_of_pos_right (by omega) hs
  · rw [if_neg h]
    have : i * s ≤ (k - 1) * s := Nat.mul_le_mul_right s (by omega)
    omega
theorem cutAt_le {n s k i : Nat} (hm : (k - 1) * s < n) : cutAt n s k i ≤ n := by
  unfold cutAt
  by_cases h : i < k
  · rw [if_pos h]
    have : i * s ≤ (k - 1) * s := Nat.mul_le_mul_right s (by omega)
    omega
  · rw [if_neg h]; omega
end Go.Proofs.Ytapilgbbkbfcbaa
