/- Layer 3: spans of right matrices; whether two meet: what the code computes. -/
import Derived.Test.YtapilgbbkbfcbaaV3
namespace Go.Proofs.Ytapilgbbkbfcbaa
open Go Go.RowKit

/-- The last place of a matrix with numbers. -/
def lastOf (off rows cols ld : Int) : Int := off + (cols - 1) * ld + rows - 1
theorem last_lt {n off rows cols ld : Int} (hg : goodP n off rows cols ld) (hr : 0 < rows) (hc : 0 < cols) : 0 ≤ (cols - 1) * ld ∧ 0 ≤ off ∧ off ≤ lastOf off rows cols ld ∧ lastOf off rows cols ld < n := by
  obtain ⟨a, b, c, d⟩ := good_at (i := rows - 1) (j := cols - 1) hg (by omega) (by omega) (by omega) (by omega)
  unfold lastOf
  omega
def meetP (A : Option Addr) (off rows cols ld : Int) (A' : Option Addr) (off' rows' cols' ld' : Int) : Prop :=
  (0 < rows ∧ 0 < cols) ∧ (0 < rows' ∧ 0 < cols') ∧ A = A' ∧ off ≤ lastOf off' rows' cols' ld' ∧ off' ≤ lastOf off rows cols ld
instance (A off rows cols ld A' off' rows' cols' ld') : Decidable (meetP A off rows cols ld A' off' rows' cols' ld') := by unfold meetP; infer_instance

set_option maxRecDepth 100000
set_option maxHeartbeats 1000000 in
theorem span_full (A : Option Addr) (n c : Nat) (off rows cols ld : Int) (w : World) (hs : (n : Int) ≤ lim) (h1 : I64 off) (h2 : I64 rows) (h3 : I64 cols) (h4 : I64 ld) (hg : goodP n off rows cols ld) (hr : 0 < rows) (hc : 0 < cols) :
    Calls Try.prog 59 #[.agg #[.slice A n c, .int .i64 off, .int .i64 rows, .int .i64 cols, .int .i64 ld]] w
      fun e w' => e = .returned (.tuple #[.int .i64 off, .int .i64 (lastOf off rows cols ld), .bool true]) ∧ Below w.heap.size w w' := by
  obtain ⟨g1, g2, g3, g4⟩ := last_lt hg hr hc
  have hd : decide (goodP n off rows cols ld) = true := decide_eq_true hg
  have HD := Lib.hid hd
  have s1 := hs; unfold lim at s1
  unfold I64 at h1 h2 h3 h4
  have e1 : (rows == 0) = false := by rw [beq_eq_false_iff_ne]; omega
  have e2 : (cols == 0) = false := by rw [beq_eq_false_iff_ne]; omega
  unfold lastOf at g3 g4 ⊢
  clear hd hg
  go_enter Try.func59, Try.ntmps59
  go_wp2_with (go_at_call 50; refine (good_box _ _ _ _ _ _ _ _ hs (by unfold I64; omega) (by unfold I64; omega) (by unfold I64; omega) (by unfold I64; omega)).mono ?_; rintro e w1 ⟨rfl, rfl⟩; rw [HD.out])
  go_quiet (fail)
  go_wp2
  go_ret3
  exact ⟨rfl, by repeat (first | exact Below.refl _ _ | refine BL.drewN ?_ _ | refine Below.alloc ?_ (by first | (simp; done) | (simp; omega)) _)⟩

set_option maxHeartbeats 1000000 in
theorem span_none (A : Option Addr) (n c : Nat) (off rows cols ld : Int) (w : World) (hs : (n : Int) ≤ lim) (h1 : I64 off) (h2 : I64 rows) (h3 : I64 cols) (h4 : I64 ld) (hg : goodP n off rows cols ld) (hr : ¬ (0 < rows ∧ 0 < cols)) :
    Calls Try.prog 59 #[.agg #[.slice A n c, .int .i64 off, .int .i64 rows, .int .i64 cols, .int .i64 ld]] w
      fun e w' => e = .returned (.tuple #[.int .i64 0, .int .i64 0, .bool false]) ∧ Below w.heap.size w w' := by
  have hd : decide (goodP n off rows cols ld) = true := decide_eq_true hg
  have HD := Lib.hid hd
  have g1 := hg.1
  have g2 := hg.2.1
  clear hd hg
  by_cases hr0 : 0 < rows
  · have e1 : (rows == 0) = false := by rw [beq_eq_false_iff_ne]; omega
    have e2 : (cols == 0) = true := by rw [beq_iff_eq]; omega
    clear hr
    go_enter Try.func59, Try.ntmps59
    go_wp2_with (go_at_call 50; refine (good_box _ _ _ _ _ _ _ _ hs h1 h2 h3 h4).mono ?_; rintro e w1 ⟨rfl, rfl⟩; rw [HD.out])
    go_ret3
    exact ⟨rfl, by repeat (first | exact Below.refl _ _ | refine Below.alloc ?_ (by first | (simp; done) | (simp; omega)) _)⟩
  · have e1 : (rows == 0) = true := by rw [beq_iff_eq]; omega
    clear hr
    go_enter Try.func59, Try.ntmps59
    go_wp2_with (go_at_call 50; refine (good_box _ _ _ _ _ _ _ _ hs h1 h2 h3 h4).mono ?_; rintro e w1 ⟨rfl, rfl⟩; rw [HD.out])
    go_ret3
    exact ⟨rfl, by repeat (first | exact Below.refl _ _ | refine Below.alloc ?_ (by first | (simp; done) | (simp; omega)) _)⟩
end Go.Proofs.Ytapilgbbkbfcbaa
