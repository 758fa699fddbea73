/- Layer 3: numbers, columns, parts of right matrices: what the code computes. -/
import Derived.Test.YtapilgbbkbfcbaaV1
import Derived.BigQuiet
namespace Go.Proofs.Ytapilgbbkbfcbaa
open Go Go.RowKit

theorem bcell {W w1 : World} (hb : Below W.heap.size W w1) : (∀ b o, b < W.heap.size → w1.cell? ⟨b, o, none⟩ = W.cell? ⟨b, o, none⟩) ∧ (∀ b o, b < W.heap.size → w1.frozen? ⟨b, o, none⟩ = W.frozen? ⟨b, o, none⟩) :=
  ⟨fun b o h => hb.cell (p := ⟨b, o, none⟩) h, fun b o h => hb.frozen (p := ⟨b, o, none⟩) h⟩

theorem fits_le {n off k step more : Int} (h : fitsP n off k step more) (hs : 1 ≤ step) : off + k * step + more < n := by
  obtain ⟨h1, h2, h3, h4⟩ := h
  have := (Int.le_ediv_iff_mul_le (by omega)).1 h4
  omega

/-- Where a number of a right matrix stands. -/
theorem good_at {n off rows cols ld i j : Int} (hg : goodP n off rows cols ld) (hi : 0 ≤ i) (hi' : i < rows) (hj : 0 ≤ j) (hj' : j < cols) :
    0 ≤ j * ld ∧ 0 ≤ off ∧ off + i + j * ld < n ∧ 1 ≤ ld := by
  obtain ⟨h1, h2, h3, h4, h5, h6⟩ := hg
  rcases h6 with h6 | h6 | h6
  · omega
  · omega
  · have a := fits_le h6 h4
    have b : j * ld ≤ (cols - 1) * ld := Int.mul_le_mul_of_nonneg_right (by omega) (by omega)
    have c : 0 ≤ j * ld := Int.mul_nonneg hj (by omega)
    exact ⟨c, h3, by omega, h4⟩
/-- Where a number of a right vector stands. -/
theorem right_at {n off N inc i : Int} (hg : rightP n off N inc) (hi : 0 ≤ i) (hi' : i < N) : 0 ≤ i * inc ∧ 0 ≤ off ∧ off + i * inc < n ∧ 1 ≤ inc := by
  obtain ⟨h1, h4, h3, h6⟩ := hg
  rcases h6 with h6 | h6
  · omega
  · have a := fits_le h6 h4
    have b : i * inc ≤ (N - 1) * inc := Int.mul_le_mul_of_nonneg_right (by omega) (by omega)
    have c : 0 ≤ i * inc := Int.mul_nonneg hi (by omega)
    exact ⟨c, h3, by omega, h4⟩

set_option maxRecDepth 100000
set_option maxHeartbeats 1000000 in
theorem place_in (A : Option Addr) (n c : Nat) (off rows cols ld i j : Int) (w : World) (hs : (n : Int) ≤ lim) (h1 : I64 off) (h2 : I64 rows) (h3 : I64 cols) (h4 : I64 ld) (hg : goodP n off rows cols ld)
    (hi : 0 ≤ i) (hi' : i < rows) (hj : 0 ≤ j) (hj' : j < cols) :
    Calls Try.prog 80 #[.agg #[.slice A n c, .int .i64 off, .int .i64 rows, .int .i64 cols, .int .i64 ld], .int .i64 i, .int .i64 j] w
      fun e w' => e = .returned (.int .i64 (off + i + j * ld)) ∧ Below w.heap.size w w' := by
  obtain ⟨g1, g2, g3, g4⟩ := good_at hg hi hi' hj hj'
  have hd : decide (goodP n off rows cols ld) = true := decide_eq_true hg
  have HD := Lib.hid hd
  have HG := Lib.hid hg
  clear hd hg
  have s1 := hs; unfold lim at s1
  go_enter Try.func80, Try.ntmps80
  go_wp2_with (go_at_call 50; refine (good_calls _ _ _ _ _ _ _ _ hs h1 h2 h3 h4).mono ?_; rintro e w1 ⟨rfl, hb⟩; rw [HD.out]; obtain ⟨hc, hf⟩ := bcell hb)
  go_ret
  exact ⟨rfl, ((Below.refl _ _).alloc (Nat.le_refl _) _).trans (hb.mono (by simp))⟩

set_option maxHeartbeats 1000000 in
theorem at_in (b o n c : Nat) (off rows cols ld i j : Int) (v : Nat) (w : World) (hs : (n : Int) ≤ lim) (h1 : I64 off) (h2 : I64 rows) (h3 : I64 cols) (h4 : I64 ld) (hg : goodP n off rows cols ld)
    (hi : 0 ≤ i) (hi' : i < rows) (hj : 0 ≤ j) (hj' : j < cols) (hv : w.cell? ⟨b, o + (off + i + j * ld).toNat, none⟩ = some (.float .f64 v)) :
    Calls Try.prog 48 #[.agg #[.slice (some ⟨b, o, none⟩) n c, .int .i64 off, .int .i64 rows, .int .i64 cols, .int .i64 ld], .int .i64 i, .int .i64 j] w
      fun e w' => e = .returned (.float .f64 v) ∧ Below w.heap.size w w' := by
  obtain ⟨g1, g2, g3, g4⟩ := good_at hg hi hi' hj hj'
  have HG := Lib.hid hg
  clear hg
  have hbl := World.block_lt_of_cell? w _ hv
  have s1 := hs; unfold lim at s1
  have g5 : 0 ≤ off + i + j * ld := by omega
  go_enter Try.func48, Try.ntmps48
  go_wp2_with (go_at_call 80; refine (place_in _ _ _ _ _ _ _ _ _ _ hs h1 h2 h3 h4 HG.out hi hi' hj hj').mono ?_; rintro e w1 ⟨rfl, hb⟩; obtain ⟨hc, hf⟩ := bcell hb; have hv1 := (show BL _ _ from hb).cell (v := .float .f64 v) (a := ⟨b, o + (off + i + j * ld).toNat, none⟩) (by rw [(show BL w _ from (Below.refl _ _).alloc (Nat.le_refl _) _).cell hv]))
  go_ret
  exact ⟨rfl, ((Below.refl _ _).alloc (Nat.le_refl _) _).trans (hb.mono (by simp))⟩
end Go.Proofs.Ytapilgbbkbfcbaa
