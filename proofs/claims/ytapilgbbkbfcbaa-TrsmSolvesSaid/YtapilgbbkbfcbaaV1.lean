/- Layer 3: which vectors and matrices are right: what the code computes. -/
import Derived.Test.YtapilgbbkbfcbaaBase
namespace Go.Proofs.Ytapilgbbkbfcbaa
open Go Go.RowKit

/-- What 'fits' tells. -/
def fitsP (size off steps step more : Int) : Prop := 0 ≤ off ∧ off < size ∧ more < size - off ∧ steps ≤ (size - 1 - off - more) / step
instance (a b c d e : Int) : Decidable (fitsP a b c d e) := by unfold fitsP; infer_instance
/-- A vector is right. -/
def rightP (n off N inc : Int) : Prop := 0 ≤ N ∧ 1 ≤ inc ∧ 0 ≤ off ∧ (N = 0 ∨ fitsP n off (N - 1) inc 0)
instance (a b c d : Int) : Decidable (rightP a b c d) := by unfold rightP; infer_instance
/-- A matrix is right. -/
def goodP (n off rows cols ld : Int) : Prop := 0 ≤ rows ∧ 0 ≤ cols ∧ 0 ≤ off ∧ 1 ≤ ld ∧ rows ≤ ld ∧ (rows = 0 ∨ cols = 0 ∨ fitsP n off (cols - 1) ld (rows - 1))
instance (a b c d e : Int) : Decidable (goodP a b c d e) := by unfold goodP; infer_instance

theorem ret_bool {p q : Bool} (h : p = q) : Ending.returned (.bool p) = .returned (.bool q) := by rw [h]

def lim : Int := 140737488355328
theorem lim_eq : lim = 140737488355328 := rfl
/-- A number is an int's. -/
def I64 (x : Int) : Prop := -9223372036854775808 ≤ x ∧ x ≤ 9223372036854775807

set_option maxHeartbeats 400000 in
theorem fits_calls (size off steps step more : Int) (w : World) (hs : 0 ≤ size) (hs' : size ≤ lim) (ho : I64 off) (hp : 1 ≤ step) (hp' : I64 step) (hm : 0 ≤ more) (hm' : I64 more) :
    Calls Try.prog 85 #[.int .i64 size, .int .i64 off, .int .i64 steps, .int .i64 step, .int .i64 more] w
      fun e w' => e = .returned (.bool (decide (fitsP size off steps step more))) ∧ w' = w := by
  unfold lim at hs'
  unfold I64 at *
  by_cases h1 : off < 0 ∨ size ≤ off ∨ size - off ≤ more
  · have hb : decide (fitsP size off steps step more) = false := decide_eq_false (by unfold fitsP; omega)
    rw [hb]
    rcases h1 with h1 | h1
    · go_enter Try.func85, Try.ntmps85
      go_wp2
      go_ret
      exact ⟨rfl, rfl⟩
    · by_cases h0 : off < 0
      · go_enter Try.func85, Try.ntmps85
        go_wp2
        go_ret
        exact ⟨rfl, rfl⟩
      · by_cases h2 : size ≤ off
        · go_enter Try.func85, Try.ntmps85
          go_wp2
          go_ret
          exact ⟨rfl, rfl⟩
        · have h3 : size - off ≤ more := by omega
          clear h1
          go_enter Try.func85, Try.ntmps85
          go_wp2
          go_ret
          exact ⟨rfl, rfl⟩
  · have a1 : 0 ≤ off := by omega
    have a2 : off < size := by omega
    have a3 : more < size - off := by omega
    clear h1
    have hb : decide (fitsP size off steps step more) = decide (steps ≤ (size - 1 - off - more) / step) := decide_eq_decide.2 (by unfold fitsP; omega)
    rw [hb]
    go_enter Try.func85, Try.ntmps85
    go_wp2
    go_ret
    exact ⟨rfl, rfl⟩

set_option maxRecDepth 100000
set_option maxHeartbeats 1000000 in
theorem good_box (A : Option Addr) (n c : Nat) (off rows cols ld : Int) (w : World) (hs : (n : Int) ≤ lim) (h1 : I64 off) (h2 : I64 rows) (h3 : I64 cols) (h4 : I64 ld) :
    Calls Try.prog 50 #[.agg #[.slice A n c, .int .i64 off, .int .i64 rows, .int .i64 cols, .int .i64 ld]] w
      fun e w' => e = .returned (.bool (decide (goodP n off rows cols ld))) ∧ w' = w.alloc (.cells #[.slice A n c, .int .i64 off, .int .i64 rows, .int .i64 cols, .int .i64 ld] 24) := by
  have H1 := h1; have H2 := h2; have H3 := h3; have H4 := h4
  unfold I64 at h1 h2 h3 h4
  by_cases hg : 0 ≤ rows ∧ 0 ≤ cols ∧ 0 ≤ off ∧ 1 ≤ ld ∧ rows ≤ ld
  · obtain ⟨a1, a2, a3, a4, a5⟩ := hg
    by_cases b1 : rows = 0
    · have hb : decide (goodP n off rows cols ld) = true := decide_eq_true (by unfold goodP; omega)
      rw [hb]
      have e1 : (rows == 0) = true := by simp [b1]
      clear b1
      go_enter Try.func50, Try.ntmps50
      go_wp2
      go_ret
      exact ⟨rfl, rfl⟩
    · have e1 : (rows == 0) = false := by simp [b1]
      by_cases b2 : cols = 0
      · have hb : decide (goodP n off rows cols ld) = true := decide_eq_true (by unfold goodP; omega)
        rw [hb]
        have e2 : (cols == 0) = true := by simp [b2]
        clear b2
        go_enter Try.func50, Try.ntmps50
        go_wp2
        go_ret
        exact ⟨rfl, rfl⟩
      · have e2 : (cols == 0) = false := by simp [b2]
        have hb : decide (goodP n off rows cols ld) = decide (fitsP n off (cols - 1) ld (rows - 1)) := decide_eq_decide.2 (by unfold goodP; simp [a1, a2, a3, a4, a5, b1, b2])
        rw [hb]
        have b1' : 1 ≤ rows := by omega
        have b2' : 1 ≤ cols := by omega
        clear b1 b2
        go_enter Try.func50, Try.ntmps50
        go_wp2_with (go_at_call 85; refine (fits_calls _ _ _ _ _ _ (by omega) hs H1 a4 H4 (by omega) (by unfold I64; omega)).mono ?_; rintro e w' ⟨rfl, rfl⟩)
        go_ret
        exact ⟨rfl, rfl⟩
  · have hb : decide (goodP n off rows cols ld) = false := decide_eq_false (by unfold goodP; omega)
    rw [hb]
    have key : rows < 0 ∨ (0 ≤ rows ∧ cols < 0) ∨ (0 ≤ rows ∧ 0 ≤ cols ∧ off < 0) ∨ (0 ≤ rows ∧ 0 ≤ cols ∧ 0 ≤ off ∧ ld < 1) ∨ (0 ≤ rows ∧ 0 ≤ cols ∧ 0 ≤ off ∧ 1 ≤ ld ∧ ld < rows) := by omega
    clear hg hb
    rcases key with a1 | ⟨a1, a2⟩ | ⟨a1, a2, a3⟩ | ⟨a1, a2, a3, a4⟩ | ⟨a1, a2, a3, a4, a5⟩
    all_goals
      go_enter Try.func50, Try.ntmps50
      go_wp2
      go_ret
      exact ⟨rfl, rfl⟩

theorem good_calls (A : Option Addr) (n c : Nat) (off rows cols ld : Int) (w : World) (hs : (n : Int) ≤ lim) (h1 : I64 off) (h2 : I64 rows) (h3 : I64 cols) (h4 : I64 ld) :
    Calls Try.prog 50 #[.agg #[.slice A n c, .int .i64 off, .int .i64 rows, .int .i64 cols, .int .i64 ld]] w
      fun e w' => e = .returned (.bool (decide (goodP n off rows cols ld))) ∧ Below w.heap.size w w' :=
  (good_box A n c off rows cols ld w hs h1 h2 h3 h4).mono fun _ _ ⟨he, hw⟩ => ⟨he, by rw [hw]; exact (Below.refl _ _).alloc (Nat.le_refl _) _⟩

set_option maxHeartbeats 1000000 in
theorem right_calls (A : Option Addr) (n c : Nat) (off N inc : Int) (w : World) (hs : (n : Int) ≤ lim) (h1 : I64 off) (h2 : I64 N) (h3 : I64 inc) :
    Calls Try.prog 81 #[.agg #[.slice A n c, .int .i64 off, .int .i64 N, .int .i64 inc]] w
      fun e w' => e = .returned (.bool (decide (rightP n off N inc))) ∧ Below w.heap.size w w' := by
  have H1 := h1; have H2 := h2; have H3 := h3
  unfold I64 at h1 h2 h3
  by_cases hg : 0 ≤ N ∧ 1 ≤ inc ∧ 0 ≤ off
  · obtain ⟨a1, a2, a3⟩ := hg
    by_cases b1 : N = 0
    · have hb : decide (rightP n off N inc) = true := decide_eq_true (by unfold rightP; omega)
      rw [hb]
      have e1 : (N == 0) = true := by simp [b1]
      clear b1
      go_enter Try.func81, Try.ntmps81
      go_wp2
      go_ret
      exact ⟨rfl, (Below.refl _ _).alloc (Nat.le_refl _) _⟩
    · have e1 : (N == 0) = false := by simp [b1]
      have hb : decide (rightP n off N inc) = decide (fitsP n off (N - 1) inc 0) := decide_eq_decide.2 (by unfold rightP; simp [a1, a2, a3, b1])
      rw [hb]
      have b1' : 1 ≤ N := by omega
      clear b1
      go_enter Try.func81, Try.ntmps81
      go_wp2_with (go_at_call 85; refine (fits_calls _ _ _ _ _ _ (by omega) hs H1 a2 H3 (by omega) (by unfold I64; omega)).mono ?_; rintro e w' ⟨rfl, rfl⟩)
      go_ret
      exact ⟨rfl, (Below.refl _ _).alloc (Nat.le_refl _) _⟩
  · have hb : decide (rightP n off N inc) = false := decide_eq_false (by unfold rightP; omega)
    rw [hb]
    have key : N < 0 ∨ (0 ≤ N ∧ inc < 1) ∨ (0 ≤ N ∧ 1 ≤ inc ∧ off < 0) := by omega
    clear hg hb
    rcases key with a1 | ⟨a1, a2⟩ | ⟨a1, a2, a3⟩
    all_goals
      go_enter Try.func81, Try.ntmps81
      go_wp2
      go_ret
      exact ⟨rfl, (Below.refl _ _).alloc (Nat.le_refl _) _⟩
end Go.Proofs.Ytapilgbbkbfcbaa
