/- Triangular systems by blocks, plainly: blocks change no number. No program here. -/
import Derived.Test.YtapilgbbkbfcbaaR3
import Derived.Test.YtapilgbbkbfcbaaN2
namespace Go.Proofs.Ytapilgbbkbfcbaa

/-- A number of 64 bits, NaNs as one. -/
def nrm (v : Nat) : Prop := v < 18446744073709551616 ∧ cn v = v
theorem nrm_cn {v : Nat} (h : v < 18446744073709551616) : nrm (cn v) := ⟨cn_lt h, cn_cn v⟩
theorem nrm_fsub (a b : Nat) : nrm (fsub a b) := by
  refine ⟨?_, cn_fsub a b⟩
  unfold fsub
  cases h : Ieee.double.sub a b with
  | none => exact NANB_lt
  | some r => exact Ieee.Format.sub_lt _ h
theorem nrm_fdiv (a b : Nat) : nrm (fdiv a b) := by
  refine ⟨?_, cn_fdiv a b⟩
  unfold fdiv
  cases h : Ieee.double.div a b with
  | none => exact NANB_lt
  | some r => exact Ieee.Format.div_lt _ h
/-- s, less f 0 times y 0, less f 1 times y 1, .. -/
def DD (f y : Nat → Nat) : Nat → Nat → Nat
  | 0, s => s
  | t + 1, s => fsub (DD f y t s) (fmul (f t) (y t))
theorem DD_congr {f g y z : Nat → Nat} {t s : Nat} (h : ∀ i, i < t → f i = g i ∧ y i = z i) : DD f y t s = DD g z t s := by
  induction t with
  | zero => rfl
  | succ t ih => simp only [DD]; rw [ih (fun i hi => h i (by omega)), (h t (by omega)).1, (h t (by omega)).2]
theorem DD_add (f y : Nat → Nat) (a b s : Nat) : DD f y (a + b) s = DD (fun i => f (a + i)) (fun i => y (a + i)) b (DD f y a s) := by
  induction b with
  | zero => rfl
  | succ b ih =>
    show fsub (DD f y (a + b) s) (fmul (f (a + b)) (y (a + b))) = fsub _ _
    rw [ih]
theorem nrm_DD {f y : Nat → Nat} {t s : Nat} (h : nrm s) : nrm (DD f y t s) := by
  cases t with
  | zero => exact h
  | succ t => exact nrm_fsub _ _

/-! ### Numbers that are made of those ahead of them -/
def fixS (F : Nat → (Nat → Nat) → Nat) : Nat → Nat → Nat
  | 0 => fun _ => 0
  | k + 1 => upd (fixS F k) k (F k (fixS F k))
def fixL (F : Nat → (Nat → Nat) → Nat) (k : Nat) : Nat := fixS F (k + 1) k
theorem fixS_get (F : Nat → (Nat → Nat) → Nat) : ∀ m i, i < m → fixS F m i = fixL F i
  | m + 1, i, h => by
    by_cases hi : i = m
    · subst hi; rfl
    · show upd _ _ _ i = _
      rw [upd_ne _ _ _ _ hi]; exact fixS_get F m i (by omega)
theorem fixL_eq (F : Nat → (Nat → Nat) → Nat) (hF : ∀ k y z, (∀ i, i < k → y i = z i) → F k y = F k z) (k : Nat) : fixL F k = F k (fixL F) := by
  show upd _ _ _ k = _
  rw [upd_at]
  exact hF k _ _ (fun i hi => fixS_get F k i hi)

/-! ### Kind 1 -/
def lowL (M : Nat → Nat → Nat) (x : Nat → Nat) : Nat → Nat := fixL fun k y => DD (M k) y k (x k)
theorem lowL_eq (M : Nat → Nat → Nat) (x : Nat → Nat) (k : Nat) : lowL M x k = DD (M k) (lowL M x) k (x k) :=
  fixL_eq (fun k y => DD (M k) y k (x k)) (fun _ _ _ h => DD_congr fun i hi => ⟨rfl, h i hi⟩) k
theorem low_get (M : Nat → Nat → Nat) (n : Nat) (x : Nat → Nat) : ∀ j, j ≤ n → ∀ k, lowN M n j x k = if k < n then DD (M k) (lowL M x) (min j k) (x k) else x k
  | 0, _, k => by simp [lowN, DD]
  | j + 1, hj, k => by
    show elim M j (j + 1) n (lowN M n j x) k = _
    unfold elim
    rw [low_get M n x j (by omega), low_get M n x j (by omega)]
    by_cases hk : k < n
    · rw [if_pos hk, if_pos hk, if_pos (show j < n by omega)]
      by_cases h : j + 1 ≤ k
      · rw [if_pos ⟨h, hk⟩, Nat.min_self, ← lowL_eq, Nat.min_eq_left (by omega), Nat.min_eq_left (by omega)]; rfl
      · rw [if_neg (by omega), Nat.min_eq_right (by omega), Nat.min_eq_right (by omega)]
    · rw [if_neg (by omega), if_neg hk, if_neg hk]
theorem less_get (M : Nat → Nat → Nat) (R : Nat) (y z : Nat → Nat) (hz : ∀ k, k < R → nrm (z k)) : ∀ K, (∀ j, j < K → nrm (y j)) → ∀ k, lessC M R K y z k = if k < R then DD (M k) y K (z k) else z k
  | 0, _, k => by
    show begN one64 R z k = _
    unfold begN begV
    by_cases h : k < R
    · rw [if_pos h, if_pos h, show feq one64 0 = false by decide]
      exact (fmul_one (hz k h).1).trans (hz k h).2
    · rw [if_neg h, if_neg h]
  | K + 1, hy, k => by
    show addN (fun i => fmul (fmul neg64 (y K)) (M i K)) R (lessC M R K y z) k = _
    unfold addN
    rw [less_get M R y z hz K (fun j hj => hy j (by omega))]
    by_cases h : k < R
    · rw [if_pos h, if_pos h, if_pos h]
      exact fadd_neg (hy K (by omega)).1 _ _
    · rw [if_neg h, if_neg h, if_neg h]
/-- The sub-system of a block. -/
theorem low_sub (M : Nat → Nat → Nat) (x x' : Nat → Nat) (at_ many : Nat) (h : ∀ i, i < many → x' (at_ + i) = DD (M (at_ + i)) (lowL M x) at_ (x (at_ + i))) : ∀ i, i < many → lowL (fun i j => M (at_ + i) (at_ + j)) (fun i => x' (at_ + i)) i = lowL M x (at_ + i) := by
  intro i
  induction i using Nat.strongRecOn with
  | ind i ih =>
    intro hi
    rw [lowL_eq, lowL_eq M x, DD_add, h i hi]
    exact DD_congr fun t ht => ⟨rfl, ih t ht (by omega)⟩

/-- A block of a column: within it, and below it. -/
def blkIn (f : (Nat → Nat) → Nat → Nat) (at_ many : Nat) (x : Nat → Nat) : Nat → Nat := fun k => if at_ ≤ k ∧ k < at_ + many then f (fun i => x (at_ + i)) (k - at_) else x k
theorem blkIn_in (f : (Nat → Nat) → Nat → Nat) (at_ many : Nat) (x : Nat → Nat) (i : Nat) (h : i < many) : blkIn f at_ many x (at_ + i) = f (fun i => x (at_ + i)) i := by
  unfold blkIn; rw [if_pos ⟨by omega, by omega⟩, Nat.add_sub_cancel_left]
theorem blkIn_out (f : (Nat → Nat) → Nat → Nat) (at_ many : Nat) (x : Nat → Nat) (k : Nat) (h : k < at_ ∨ at_ + many ≤ k) : blkIn f at_ many x k = x k := by
  unfold blkIn; rw [if_neg (by omega)]
theorem blk_low (M : Nat → Nat → Nat) (n : Nat) (x : Nat → Nat) (hx : ∀ k, k < n → nrm (x k)) (at_ many : Nat) (hm : at_ + many ≤ n) (x' : Nat → Nat) (hx' : ∀ k, k < n → x' k = lowN M n at_ x k) :
    ∀ k, k < n → blkIn (lessC (fun i j => M (at_ + many + i) (at_ + j)) (n - (at_ + many)) many (fun j => blkIn (lowN (fun i j => M (at_ + i) (at_ + j)) many many) at_ many x' (at_ + j))) (at_ + many) (n - (at_ + many)) (blkIn (lowN (fun i j => M (at_ + i) (at_ + j)) many many) at_ many x') k
      = lowN M n (at_ + many) x k := by
  have e1 : ∀ k, k < n → x' k = DD (M k) (lowL M x) (min at_ k) (x k) := fun k hk => by rw [hx' k hk, low_get M n x at_ (by omega), if_pos hk]
  have e2 : ∀ i, i < many → blkIn (lowN (fun i j => M (at_ + i) (at_ + j)) many many) at_ many x' (at_ + i) = lowL M x (at_ + i) := fun i hi => by
    unfold blkIn
    rw [if_pos ⟨by omega, by omega⟩, Nat.add_sub_cancel_left, low_get _ _ _ _ (Nat.le_refl _), if_pos hi, Nat.min_eq_right (by omega)]
    refine (lowL_eq (fun i j => M (at_ + i) (at_ + j)) (fun i => x' (at_ + i)) i).symm.trans ?_
    exact low_sub M x x' at_ many (fun i hi => by rw [e1 _ (by omega), Nat.min_eq_left (by omega)]) i hi
  have nL : ∀ k, k < n → nrm (lowL M x k) := fun k hk => by rw [lowL_eq]; exact nrm_DD (hx k hk)
  intro k hk
  rw [low_get M n x (at_ + many) hm, if_pos hk]
  by_cases h1 : at_ + many ≤ k
  · have e3 : ∀ i, i < n - (at_ + many) → blkIn (lowN (fun i j => M (at_ + i) (at_ + j)) many many) at_ many x' (at_ + many + i) = DD (M (at_ + many + i)) (lowL M x) at_ (x (at_ + many + i)) := fun i hi => by
      unfold blkIn
      rw [if_neg (by omega), e1 _ (by omega), Nat.min_eq_left (by omega)]
    obtain ⟨i, rfl⟩ : ∃ i, k = at_ + many + i := ⟨k - (at_ + many), by omega⟩
    refine (blkIn_in _ (at_ + many) _ _ i (by omega)).trans ?_
    have := less_get (fun i j => M (at_ + many + i) (at_ + j)) (n - (at_ + many)) (fun j => blkIn (lowN (fun i j => M (at_ + i) (at_ + j)) many many) at_ many x' (at_ + j)) (fun i => blkIn (lowN (fun i j => M (at_ + i) (at_ + j)) many many) at_ many x' (at_ + many + i)) (fun i hi => by rw [e3 i hi]; exact nrm_DD (hx _ (by omega))) many (fun j hj => by rw [e2 j hj]; exact nL _ (by omega)) i
    rw [this, if_pos (by omega), Nat.min_eq_left (by omega), DD_add, e3 i (by omega)]
    exact DD_congr fun t ht => ⟨rfl, e2 t ht⟩
  · refine (blkIn_out _ (at_ + many) _ _ k (by omega)).trans ?_
    by_cases h2 : at_ ≤ k
    · obtain ⟨i, rfl⟩ : ∃ i, k = at_ + i := ⟨k - at_, by omega⟩
      rw [Nat.min_eq_right (by omega), ← lowL_eq, ← e2 i (by omega)]
    · rw [blkIn_out _ _ _ _ _ (by omega), e1 k hk, Nat.min_eq_right (by omega), Nat.min_eq_right (by omega)]

/-! ### Kind 2 -/
/-- The numbers from the last one back. -/
def upL (M : Nat → Nat → Nat) (n : Nat) (x : Nat → Nat) : Nat → Nat := fixL fun t y => fdiv (DD (fun i => M (n - 1 - t) (n - 1 - i)) y t (x (n - 1 - t))) (M (n - 1 - t) (n - 1 - t))
theorem upL_eq (M : Nat → Nat → Nat) (n : Nat) (x : Nat → Nat) (t : Nat) : upL M n x t = fdiv (DD (fun i => M (n - 1 - t) (n - 1 - i)) (upL M n x) t (x (n - 1 - t))) (M (n - 1 - t) (n - 1 - t)) :=
  fixL_eq (fun t y => fdiv (DD (fun i => M (n - 1 - t) (n - 1 - i)) y t (x (n - 1 - t))) (M (n - 1 - t) (n - 1 - t))) (fun _ _ _ h => congrArg (fun z => fdiv z _) (DD_congr fun i hi => ⟨rfl, h i hi⟩)) t
theorem up_get (M : Nat → Nat → Nat) (n : Nat) (x : Nat → Nat) : ∀ t, t ≤ n → ∀ k, upN M n t x k = if n ≤ k then x k else if n - t ≤ k then upL M n x (n - 1 - k) else DD (fun i => M k (n - 1 - i)) (upL M n x) t (x k)
  | 0, _, k => by
    show x k = _
    by_cases h : n ≤ k
    · rw [if_pos h]
    · rw [if_neg h, if_neg (by omega)]; rfl
  | t + 1, ht, k => by
    have ej : fdiv (upN M n t x (n - 1 - t)) (M (n - 1 - t) (n - 1 - t)) = upL M n x t := by
      rw [up_get M n x t (by omega), if_neg (by omega), if_neg (by omega), ← upL_eq]
    show elim M (n - 1 - t) 0 (n - 1 - t) (upd (upN M n t x) (n - 1 - t) (fdiv (upN M n t x (n - 1 - t)) (M (n - 1 - t) (n - 1 - t)))) k = _
    rw [ej]
    unfold elim
    by_cases h : n ≤ k
    · rw [if_pos h, if_neg (by omega), upd_ne _ _ _ _ (by omega), up_get M n x t (by omega), if_pos h]
    · rw [if_neg h]
      by_cases h2 : k < n - 1 - t
      · rw [if_pos ⟨Nat.zero_le _, h2⟩, if_neg (by omega), upd_ne _ _ _ _ (by omega), upd_at, up_get M n x t (by omega), if_neg h, if_neg (by omega)]; rfl
      · rw [if_neg (by omega), if_pos (by omega)]
        by_cases h3 : k = n - 1 - t
        · subst h3
          rw [upd_at]
          congr 1; omega
        · rw [upd_ne _ _ _ _ h3, up_get M n x t (by omega), if_neg h, if_pos (by omega)]
theorem up_sub (M : Nat → Nat → Nat) (n : Nat) (x x' : Nat → Nat) (at_ many : Nat) (hm : at_ + many ≤ n) (h : ∀ i, i < many → x' (at_ + i) = DD (fun j => M (at_ + i) (n - 1 - j)) (upL M n x) (n - (at_ + many)) (x (at_ + i))) :
    ∀ t, t < many → upL (fun i j => M (at_ + i) (at_ + j)) many (fun i => x' (at_ + i)) t = upL M n x (n - (at_ + many) + t) := by
  intro t
  induction t using Nat.strongRecOn with
  | ind t ih =>
    intro ht
    rw [upL_eq, upL_eq M n x, DD_add, h _ (by omega), show n - 1 - (n - (at_ + many) + t) = at_ + (many - 1 - t) by omega]
    congr 1
    exact DD_congr fun i hi => ⟨by congr 1; omega, ih i hi (by omega)⟩
/-- Within a block; then column by column above it, from the last one back. -/
def upRows (M : Nat → Nat → Nat) (at_ e : Nat) : Nat → (Nat → Nat) → Nat → Nat
  | 0, x => x
  | t + 1, x => blkIn (lessC (fun i j => M i (e - 1 - t + j)) at_ 1 (fun j => upRows M at_ e t x (e - 1 - t + j))) 0 at_ (upRows M at_ e t x)
theorem upRows_get (M : Nat → Nat → Nat) (at_ e : Nat) (x : Nat → Nat) (hx : ∀ k, k < e → nrm (x k)) : ∀ t, at_ + t ≤ e → ∀ k, upRows M at_ e t x k = if k < at_ then DD (fun i => M k (e - 1 - i)) (fun i => x (e - 1 - i)) t (x k) else x k
  | 0, _, k => by
    show x k = _
    by_cases h : k < at_
    · rw [if_pos h]; rfl
    · rw [if_neg h]
  | t + 1, ht, k => by
    have ih := upRows_get M at_ e x hx t (by omega)
    have ej : ∀ j, j < 1 → upRows M at_ e t x (e - 1 - t + j) = x (e - 1 - t) := fun j hj => by
      obtain rfl : j = 0 := by omega
      rw [ih, if_neg (by omega)]; rfl
    show blkIn _ 0 at_ (upRows M at_ e t x) k = _
    unfold blkIn
    by_cases h : k < at_
    · rw [if_pos ⟨Nat.zero_le _, by omega⟩, if_pos h]
      simp only [Nat.zero_add, Nat.sub_zero]
      rw [less_get _ _ _ _ (fun k hk => by rw [ih, if_pos hk]; exact nrm_DD (hx _ (by omega))) 1 (fun j hj => by rw [ej j hj]; exact hx _ (by omega)), if_pos h]
      show fsub (upRows M at_ e t x k) (fmul (M k (e - 1 - t + 0)) (upRows M at_ e t x (e - 1 - t + 0))) = _
      rw [ej 0 (by omega), ih, if_pos h]
      rfl
    · rw [if_neg (by omega), if_neg h, ih, if_neg h]
theorem blk_up (M : Nat → Nat → Nat) (n : Nat) (x : Nat → Nat) (hx : ∀ k, k < n → nrm (x k)) (at_ many : Nat) (hm : at_ + many ≤ n) (x' : Nat → Nat) (hx' : ∀ k, k < n → x' k = upN M n (n - (at_ + many)) x k) :
    ∀ k, k < n → upRows M at_ (at_ + many) many (blkIn (upN (fun i j => M (at_ + i) (at_ + j)) many many) at_ many x') k = upN M n (n - at_) x k := by
  have e1 : ∀ k, k < n → x' k = if at_ + many ≤ k then upL M n x (n - 1 - k) else DD (fun i => M k (n - 1 - i)) (upL M n x) (n - (at_ + many)) (x k) := fun k hk => by
    rw [hx' k hk, up_get M n x _ (by omega), if_neg (by omega)]
    rw [show n - (n - (at_ + many)) = at_ + many by omega]
  have nU : ∀ t, t < n → nrm (upL M n x t) := fun t ht => by rw [upL_eq]; exact nrm_fdiv _ _
  have e2 : ∀ i, i < many → blkIn (upN (fun i j => M (at_ + i) (at_ + j)) many many) at_ many x' (at_ + i) = upL M n x (n - 1 - (at_ + i)) := fun i hi => by
    unfold blkIn
    rw [if_pos ⟨by omega, by omega⟩, Nat.add_sub_cancel_left, up_get _ _ _ _ (Nat.le_refl _), if_neg (by omega), if_pos (by omega)]
    rw [up_sub M n x x' at_ many hm (fun i hi => by rw [e1 _ (by omega), if_neg (by omega)]) _ (by omega)]
    congr 1; omega
  have nB : ∀ k, k < at_ + many → nrm (blkIn (upN (fun i j => M (at_ + i) (at_ + j)) many many) at_ many x' k) := fun k hk => by
    by_cases h : at_ ≤ k
    · obtain ⟨i, rfl⟩ : ∃ i, k = at_ + i := ⟨k - at_, by omega⟩
      rw [e2 i (by omega)]; exact nU _ (by omega)
    · unfold blkIn
      rw [if_neg (by omega), e1 k (by omega), if_neg (by omega)]
      exact nrm_DD (hx k (by omega))
  intro k hk
  refine (upRows_get M at_ (at_ + many) _ nB many (Nat.le_refl _) k).trans ?_
  rw [up_get M n x (n - at_) (by omega), if_neg (show ¬ n ≤ k by omega)]
  rw [show n - (n - at_) = at_ by omega]
  by_cases h : k < at_
  · rw [if_pos h, if_neg (show ¬ at_ ≤ k by omega)]
    have ek : blkIn (upN (fun i j => M (at_ + i) (at_ + j)) many many) at_ many x' k = DD (fun i => M k (n - 1 - i)) (upL M n x) (n - (at_ + many)) (x k) := by
      unfold blkIn
      rw [if_neg (by omega), e1 k hk, if_neg (by omega)]
    rw [ek, show n - at_ = (n - (at_ + many)) + many by omega, DD_add]
    refine DD_congr fun i hi => ⟨by congr 1; omega, ?_⟩
    rw [show at_ + many - 1 - i = at_ + (many - 1 - i) by omega, e2 _ (by omega)]
    congr 1; omega
  · rw [if_neg h, if_pos (show at_ ≤ k by omega)]
    by_cases h2 : k < at_ + many
    · obtain ⟨i, rfl⟩ : ∃ i, k = at_ + i := ⟨k - at_, by omega⟩
      exact e2 i (by omega)
    · unfold blkIn
      rw [if_neg (by omega), e1 k hk, if_pos (by omega)]
end Go.Proofs.Ytapilgbbkbfcbaa
