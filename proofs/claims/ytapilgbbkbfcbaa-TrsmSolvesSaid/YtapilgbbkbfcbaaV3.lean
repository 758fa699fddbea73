/- Layer 3: columns, rows, parts, spans of right matrices; whether two meet: what the code computes. -/
import Derived.Test.YtapilgbbkbfcbaaV2
namespace Go.Proofs.Ytapilgbbkbfcbaa
open Go Go.RowKit

def colOff (off rows ld j : Int) : Int := if 0 < rows then off + j * ld else off
def rowOff (off cols i : Int) : Int := if 0 < cols then off + i else off
def partOff (off ld i j rows cols : Int) : Int := if 0 < rows ∧ 0 < cols then off + (i + j * ld) else off

set_option maxRecDepth 100000
set_option maxHeartbeats 1000000 in
theorem col_in (A : Option Addr) (n c : Nat) (off rows cols ld j : Int) (w : World) (hs : (n : Int) ≤ lim) (h1 : I64 off) (h2 : I64 rows) (h3 : I64 cols) (h4 : I64 ld) (hg : goodP n off rows cols ld)
    (hj : 0 ≤ j) (hj' : j < cols) :
    Calls Try.prog 60 #[.agg #[.slice A n c, .int .i64 off, .int .i64 rows, .int .i64 cols, .int .i64 ld], .int .i64 j] w
      fun e w' => e = .returned (.agg #[.slice A n c, .int .i64 (colOff off rows ld j), .int .i64 rows, .int .i64 1]) ∧ Below w.heap.size w w' := by
  have hd : decide (goodP n off rows cols ld) = true := decide_eq_true hg
  have HD := Lib.hid hd
  have s1 := hs; unfold lim at s1
  unfold I64 at h1 h2 h3 h4
  by_cases hr : 0 < rows
  · obtain ⟨g1, g2, g3, g4⟩ := good_at hg (Int.le_refl 0) hr hj hj'
    have he : colOff off rows ld j = off + j * ld := by simp [colOff, hr]
    rw [he]
    clear hd hg he
    go_enter Try.func60, Try.ntmps60
    go_wp2_with (go_at_call 50; refine (good_box _ _ _ _ _ _ _ _ hs (by unfold I64; omega) (by unfold I64; omega) (by unfold I64; omega) (by unfold I64; omega)).mono ?_; rintro e w1 ⟨rfl, rfl⟩; rw [HD.out])
    exact bodyPost_ret (v := .agg #[.slice A n c, .int .i64 (off + j * ld), .int .i64 rows, .int .i64 1]) (by simp [results, Try.results60, go_sem]) rfl ⟨rfl, by repeat (first | exact Below.refl _ _ | refine Below.setCell ?_ (by first | (simp; done) | (simp; omega)) _ | refine Below.alloc ?_ (by first | (simp; done) | (simp; omega)) _)⟩
  · have hg2 := hg.2.2
    have he : colOff off rows ld j = off := by simp [colOff, hr]
    rw [he]
    clear hd hg he
    go_enter Try.func60, Try.ntmps60
    go_wp2_with (go_at_call 50; refine (good_box _ _ _ _ _ _ _ _ hs (by unfold I64; omega) (by unfold I64; omega) (by unfold I64; omega) (by unfold I64; omega)).mono ?_; rintro e w1 ⟨rfl, rfl⟩; rw [HD.out])
    exact bodyPost_ret (v := .agg #[.slice A n c, .int .i64 off, .int .i64 rows, .int .i64 1]) (by simp [results, Try.results60, go_sem]) rfl ⟨rfl, by repeat (first | exact Below.refl _ _ | refine Below.setCell ?_ (by first | (simp; done) | (simp; omega)) _ | refine Below.alloc ?_ (by first | (simp; done) | (simp; omega)) _)⟩

set_option maxHeartbeats 1000000 in
theorem part_in (A : Option Addr) (n c : Nat) (off rows cols ld i j r k : Int) (w : World) (hs : (n : Int) ≤ lim) (h1 : I64 off) (h2 : I64 rows) (h3 : I64 cols) (h4 : I64 ld) (hg : goodP n off rows cols ld)
    (hi : 0 ≤ i) (hj : 0 ≤ j) (hr : 0 ≤ r) (hk : 0 ≤ k) (hir : i + r ≤ rows) (hjk : j + k ≤ cols) :
    Calls Try.prog 32 #[.agg #[.slice A n c, .int .i64 off, .int .i64 rows, .int .i64 cols, .int .i64 ld], .int .i64 i, .int .i64 j, .int .i64 r, .int .i64 k] w
      fun e w' => e = .returned (.agg #[.slice A n c, .int .i64 (partOff off ld i j r k), .int .i64 r, .int .i64 k, .int .i64 ld]) ∧ Below w.heap.size w w' := by
  have hd : decide (goodP n off rows cols ld) = true := decide_eq_true hg
  have HD := Lib.hid hd
  have s1 := hs; unfold lim at s1
  unfold I64 at h1 h2 h3 h4
  have q1 : r ≤ rows - i := by omega
  have q2 : k ≤ cols - j := by omega
  by_cases hr0 : 0 < r
  · by_cases hk0 : 0 < k
    · obtain ⟨g1, g2, g3, g4⟩ := good_at (i := i) (j := j) hg (by omega) (by omega) (by omega) (by omega)
      have he : partOff off ld i j r k = off + (i + j * ld) := by simp [partOff, hr0, hk0]
      rw [he]
      clear hd hg he
      go_enter Try.func32, Try.ntmps32
      go_wp2_with (go_at_call 50; refine (good_box _ _ _ _ _ _ _ _ hs (by unfold I64; omega) (by unfold I64; omega) (by unfold I64; omega) (by unfold I64; omega)).mono ?_; rintro e w1 ⟨rfl, rfl⟩; rw [HD.out])
      exact bodyPost_ret (v := .agg #[.slice A n c, .int .i64 (off + (i + j * ld)), .int .i64 r, .int .i64 k, .int .i64 ld]) (by simp [results, Try.results32, go_sem]) rfl ⟨rfl, by repeat (first | exact Below.refl _ _ | refine Below.setCell ?_ (by first | (simp; done) | (simp; omega)) _ | refine Below.alloc ?_ (by first | (simp; done) | (simp; omega)) _)⟩
    · have he : partOff off ld i j r k = off := by simp [partOff, hk0]
      have g2 := hg.2.2.1
      rw [he]
      clear hd hg he
      go_enter Try.func32, Try.ntmps32
      go_wp2_with (go_at_call 50; refine (good_box _ _ _ _ _ _ _ _ hs (by unfold I64; omega) (by unfold I64; omega) (by unfold I64; omega) (by unfold I64; omega)).mono ?_; rintro e w1 ⟨rfl, rfl⟩; rw [HD.out])
      exact bodyPost_ret (v := .agg #[.slice A n c, .int .i64 off, .int .i64 r, .int .i64 k, .int .i64 ld]) (by simp [results, Try.results32, go_sem]) rfl ⟨rfl, by repeat (first | exact Below.refl _ _ | refine Below.setCell ?_ (by first | (simp; done) | (simp; omega)) _ | refine Below.alloc ?_ (by first | (simp; done) | (simp; omega)) _)⟩
  · have he : partOff off ld i j r k = off := by simp [partOff, hr0]
    have g2 := hg.2.2.1
    rw [he]
    clear hd hg he
    go_enter Try.func32, Try.ntmps32
    go_wp2_with (go_at_call 50; refine (good_box _ _ _ _ _ _ _ _ hs (by unfold I64; omega) (by unfold I64; omega) (by unfold I64; omega) (by unfold I64; omega)).mono ?_; rintro e w1 ⟨rfl, rfl⟩; rw [HD.out])
    exact bodyPost_ret (v := .agg #[.slice A n c, .int .i64 off, .int .i64 r, .int .i64 k, .int .i64 ld]) (by simp [results, Try.results32, go_sem]) rfl ⟨rfl, by repeat (first | exact Below.refl _ _ | refine Below.setCell ?_ (by first | (simp; done) | (simp; omega)) _ | refine Below.alloc ?_ (by first | (simp; done) | (simp; omega)) _)⟩

set_option maxHeartbeats 1000000 in
theorem row_in (A : Option Addr) (n c : Nat) (off rows cols ld i : Int) (w : World) (hs : (n : Int) ≤ lim) (h1 : I64 off) (h2 : I64 rows) (h3 : I64 cols) (h4 : I64 ld) (hg : goodP n off rows cols ld)
    (hi : 0 ≤ i) (hi' : i < rows) :
    Calls Try.prog 114 #[.agg #[.slice A n c, .int .i64 off, .int .i64 rows, .int .i64 cols, .int .i64 ld], .int .i64 i] w
      fun e w' => e = .returned (.agg #[.slice A n c, .int .i64 (rowOff off cols i), .int .i64 cols, .int .i64 ld]) ∧ Below w.heap.size w w' := by
  have hd : decide (goodP n off rows cols ld) = true := decide_eq_true hg
  have HD := Lib.hid hd
  have s1 := hs; unfold lim at s1
  unfold I64 at h1 h2 h3 h4
  by_cases hr : 0 < cols
  · obtain ⟨g1, g2, g3, g4⟩ := good_at (i := i) (j := 0) hg hi hi' (by omega) hr
    have g5 : off + i < n := by omega
    have he : rowOff off cols i = off + i := by simp [rowOff, hr]
    rw [he]
    clear hd hg he g1 g3
    go_enter Try.func114, Try.ntmps114
    go_wp2_with (go_at_call 50; refine (good_box _ _ _ _ _ _ _ _ hs (by unfold I64; omega) (by unfold I64; omega) (by unfold I64; omega) (by unfold I64; omega)).mono ?_; rintro e w1 ⟨rfl, rfl⟩; rw [HD.out])
    exact bodyPost_ret (v := .agg #[.slice A n c, .int .i64 (off + i), .int .i64 cols, .int .i64 ld]) (by simp [results, Try.results114, go_sem]) rfl ⟨rfl, by repeat (first | exact Below.refl _ _ | refine Below.setCell ?_ (by first | (simp; done) | (simp; omega)) _ | refine Below.alloc ?_ (by first | (simp; done) | (simp; omega)) _)⟩
  · have g2 := hg.2.2.1
    have he : rowOff off cols i = off := by simp [rowOff, hr]
    rw [he]
    clear hd hg he
    go_enter Try.func114, Try.ntmps114
    go_wp2_with (go_at_call 50; refine (good_box _ _ _ _ _ _ _ _ hs (by unfold I64; omega) (by unfold I64; omega) (by unfold I64; omega) (by unfold I64; omega)).mono ?_; rintro e w1 ⟨rfl, rfl⟩; rw [HD.out])
    exact bodyPost_ret (v := .agg #[.slice A n c, .int .i64 off, .int .i64 cols, .int .i64 ld]) (by simp [results, Try.results114, go_sem]) rfl ⟨rfl, by repeat (first | exact Below.refl _ _ | refine Below.setCell ?_ (by first | (simp; done) | (simp; omega)) _ | refine Below.alloc ?_ (by first | (simp; done) | (simp; omega)) _)⟩
end Go.Proofs.Ytapilgbbkbfcbaa
