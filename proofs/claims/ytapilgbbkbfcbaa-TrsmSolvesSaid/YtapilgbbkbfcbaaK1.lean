/- References 05, 03, 07: sums of floats, tables, spans: small functions: what they compute. -/
import Derived.Test.YtapilgbbkbfcbaaL3
import Derived.Test.YtapilgbbkbfcbaaR4
namespace Go.Proofs.Ytapilgbbkbfcbaa
open Go Go.RowKit

/-- A value is a number that is x, NaNs as one. -/
def IsF (x : Nat) (u : Value) : Prop := ∃ r, u = .float .f64 r ∧ r < 18446744073709551616 ∧ cn r = x
set_option maxRecDepth 100000
set_option maxHeartbeats 1000000 in
theorem times_calls (a b : Nat) (w : World) :
    Calls Try.prog 103 #[.float .f64 a, .float .f64 b] w fun e w' => ∃ u, e = .returned u ∧ IsF (fmul a b) u ∧ Below w.heap.size w w' := by
  go_enter Try.func103, Try.ntmps103
  go_wp2_with (refine wmFmul _ _ (by rfl) (by rfl) (fun r1 n1 hr1 hc1 => ?_); have HC1 := Lib.hid hc1; clear hc1; simp only [List.set_cons_succ, List.set_cons_zero])
  go_ret
  exact ⟨_, rfl, ⟨r1, rfl, hr1, HC1.out⟩, by repeat (first | exact Below.refl _ _ | refine BL.drewN ?_ _)⟩
set_option maxHeartbeats 1000000 in
theorem rless_calls (a b : Nat) (w : World) :
    Calls Try.prog 102 #[.float .f64 a, .float .f64 b] w fun e w' => ∃ u, e = .returned u ∧ IsF (fsub a b) u ∧ Below w.heap.size w w' := by
  go_enter Try.func102, Try.ntmps102
  go_wp2_with (refine wmFsub _ _ (by rfl) (by rfl) (fun r1 n1 hr1 hc1 => ?_); have HC1 := Lib.hid hc1; clear hc1; simp only [List.set_cons_succ, List.set_cons_zero])
  go_ret
  exact ⟨_, rfl, ⟨r1, rfl, hr1, HC1.out⟩, by repeat (first | exact Below.refl _ _ | refine BL.drewN ?_ _)⟩
set_option maxHeartbeats 1000000 in
theorem over_calls (a b : Nat) (w : World) :
    Calls Try.prog 66 #[.float .f64 a, .float .f64 b] w fun e w' => ∃ u, e = .returned u ∧ IsF (fdiv a b) u ∧ Below w.heap.size w w' := by
  go_enter Try.func66, Try.ntmps66
  go_wp2_with (refine wmFdiv _ _ (by rfl) (by rfl) (fun r1 n1 hr1 hc1 => ?_); have HC1 := Lib.hid hc1; clear hc1; simp only [List.set_cons_succ, List.set_cons_zero])
  go_ret
  exact ⟨_, rfl, ⟨r1, rfl, hr1, HC1.out⟩, by repeat (first | exact Below.refl _ _ | refine BL.drewN ?_ _)⟩
theorem fsub_cnr' (a b : Nat) : fsub a (cn b) = fsub a b := by rw [← fsub_cn, cn_cn, fsub_cn]
set_option maxHeartbeats 1000000 in
theorem rsub_calls (x a b : Nat) (w : World) :
    Calls Try.prog 65 #[.float .f64 x, .float .f64 a, .float .f64 b] w fun e w' => ∃ u, e = .returned u ∧ IsF (fsub x (fmul a b)) u ∧ Below w.heap.size w w' := by
  go_enter Try.func65, Try.ntmps65
  go_wp2_with fail
  refine (times_calls a b _).mono ?_
  rintro e w1 ⟨u, rfl, ⟨r1, rfl, hr1, hc1⟩, hb1⟩
  have HC1 := Lib.hid hc1
  clear hc1
  go_wp2_with fail
  refine (rless_calls x r1 _).mono ?_
  rintro e w2 ⟨u, rfl, ⟨r2, rfl, hr2, hc2⟩, hb2⟩
  have HC2 := Lib.hid hc2
  clear hc2
  go_wp2
  go_ret
  exact ⟨_, rfl, ⟨r2, rfl, hr2, by rw [HC2.out, ← HC1.out, fsub_cnr']⟩, BL.call hb1 hb2⟩

/-- A table's value: rows, columns, list. -/
def tabV (b o n c : Nat) (R C : Int) : Value := .agg #[.int .i64 R, .int .i64 C, .slice (some ⟨b, o, none⟩) n c]
set_option maxHeartbeats 1000000 in
theorem mat_at (b o n c : Nat) (R C : Int) (i j k p : Nat) (v : Nat) (w : World) (hC : C = (k : Int)) (hp : p = i * k + j) (hpn : p < n) (hn : (n : Int) ≤ lim) (hv : w.cell? ⟨b, o + p, none⟩ = some (.float .f64 v)) :
    Calls Try.prog 40 #[.agg #[.int .i64 R, .int .i64 C, .slice (some ⟨b, o, none⟩) n c], .int .i64 i, .int .i64 j] w fun e w' => e = .returned (.float .f64 v) ∧ Below w.heap.size w w' := by
  subst hC
  have hbl : b < w.heap.size := World.block_lt_of_cell? w _ hv
  unfold lim at hn
  obtain ⟨q, hq⟩ : ∃ q, q = i * k := ⟨_, rfl⟩
  have eq : (i : Int) * (k : Int) = (q : Int) := by rw [hq]; exact (Int.natCast_mul i k).symm
  rw [← hq] at hp
  subst hp
  clear hq
  go_enter Try.func40, Try.ntmps40
  go_wp2
  go_ret
  exact ⟨rfl, (Below.refl _ _).alloc (Nat.le_refl _) _⟩
set_option maxHeartbeats 1000000 in
theorem mat_set (b o n c : Nat) (R C : Int) (i j k p : Nat) (v u : Nat) (w : World) (hC : C = (k : Int)) (hp : p = i * k + j) (hpn : p < n) (hn : (n : Int) ≤ lim) (hv : w.cell? ⟨b, o + p, none⟩ = some (.float .f64 u)) (hf : w.frozen? ⟨b, o + p, none⟩ = false) :
    Calls Try.prog 39 #[.agg #[.int .i64 R, .int .i64 C, .slice (some ⟨b, o, none⟩) n c], .int .i64 i, .int .i64 j, .float .f64 v] w
      fun e w' => e = .returned (.tuple #[]) ∧ ∃ ob, w' = (w.setCell ⟨b, o + p, none⟩ (.float .f64 v)).alloc ob := by
  subst hC
  have hbl : b < w.heap.size := World.block_lt_of_cell? w _ hv
  unfold lim at hn
  obtain ⟨q, hq⟩ : ∃ q, q = i * k := ⟨_, rfl⟩
  have eq : (i : Int) * (k : Int) = (q : Int) := by rw [hq]; exact (Int.natCast_mul i k).symm
  rw [← hq] at hp
  subst hp
  clear hq
  go_enter Try.func39, Try.ntmps39
  go_wp2
  go_end0
  exact ⟨rfl, _, rfl⟩
set_option maxHeartbeats 1000000 in
theorem new_calls (R C : Nat) (w : World) (hR : R ≤ 64) (hC : C ≤ 64) :
    Calls Try.prog 19 #[.int .i64 R, .int .i64 C] w fun e w' => ∃ g, e = .returned (.agg #[.int .i64 R, .int .i64 C, .slice (some ⟨g, 0, none⟩) (R * C : Nat) (R * C : Nat)]) ∧ OwnL w' w.heap.size g (R * C) (R * C) (fun _ => 0) ∧ Below w.heap.size w w' := by
  obtain ⟨N, hN⟩ : ∃ N, N = R * C := ⟨_, rfl⟩
  have eN : (R : Int) * (C : Int) = (N : Int) := by rw [hN]; exact (Int.natCast_mul R C).symm
  have hN4 : N ≤ 4096 := by rw [hN]; exact Nat.le_trans (Nat.mul_le_mul hR hC) (by omega)
  rw [← hN]
  have hmk := run_make_f N (by omega)
  have hR0 : (0 : Int) ≤ R := by omega
  have hC0 : (0 : Int) ≤ C := by omega
  have hR6 : (R : Int) ≤ 64 := by omega
  have hC6 : (C : Int) ≤ 64 := by omega
  clear hN
  go_enter Try.func19, Try.ntmps19
  go_wp2
  refine bodyPost_ret (v := .agg #[.int .i64 R, .int .i64 C, .slice (some ⟨w.heap.size + 1, 0, none⟩) N N]) (by simp [results, Try.results19, go_sem]) rfl ⟨_, rfl, ?_, ?_⟩
  · refine ⟨Nat.le_succ _, Nat.le_refl _, by unfold maxLen; omega, ⟨_, new_at _ _ (by simp), size_madeCells _ _⟩, XAt.of_one fun i hi => ⟨0, by omega, ?_, rfl⟩⟩
    rw [Nat.zero_add, cells_of (new_at _ _ (by simp))]; exact made_get hi
  · exact ((Below.refl _ _).alloc (Nat.le_refl _) _).alloc (by simp) _

/-! ### Whether a matrix is right; where it lies -/
set_option maxHeartbeats 1000000 in
theorem within_calls (n off a b c : Int) (w : World) (h0 : 0 ≤ off) (ha : 0 ≤ a) (hb : 1 ≤ b) (hc : 0 ≤ c) (hn : 0 ≤ n) (hn' : n ≤ lim) (i1 : I64 off) (i2 : I64 a) (i3 : I64 b) (i4 : I64 c) (r : Bool) (hr : r = decide (fitsP n off a b c)) :
    Calls Try.prog 35 #[.int .i64 n, .int .i64 off, .int .i64 a, .int .i64 b, .int .i64 c] w fun e w' => e = .returned (.bool r) ∧ w' = w := by
  unfold lim at hn'
  unfold I64 at *
  by_cases g1 : n ≤ off
  · have R1 := Lib.hid (show r = false by rw [hr]; exact decide_eq_false (by unfold fitsP; omega))
    clear hr
    go_enter Try.func35, Try.ntmps35
    go_wp2
    go_ret
    exact ⟨by rw [R1.out]; rfl, rfl⟩
  · by_cases g2 : n - off ≤ c
    · have R1 := Lib.hid (show r = false by rw [hr]; exact decide_eq_false (by unfold fitsP; omega))
      clear hr
      go_enter Try.func35, Try.ntmps35
      go_wp2
      go_ret
      exact ⟨by rw [R1.out]; rfl, rfl⟩
    · by_cases g3 : a = 0
      · have R1 := Lib.hid (show r = true by rw [hr]; exact decide_eq_true ⟨h0, by omega, by omega, by rw [g3]; exact Int.ediv_nonneg (by omega) (by omega)⟩)
        clear hr
        subst g3
        go_enter Try.func35, Try.ntmps35
        go_wp2
        go_ret
        exact ⟨by rw [R1.out]; rfl, rfl⟩
      · have e0 : (a == 0) = false := by rw [beq_eq_false_iff_ne]; exact g3
        have ha1 : 1 ≤ a := by omega
        have key : fitsP n off a b c ↔ b ≤ (n - off - c - 1) / a := by
          unfold fitsP
          rw [show n - 1 - off - c = n - off - c - 1 by omega, Int.le_ediv_iff_mul_le (by omega), Int.le_ediv_iff_mul_le (by omega), Int.mul_comm a b]
          omega
        have R1 := Lib.hid (show r = decide (b ≤ (n - off - c - 1) / a) by rw [hr]; exact decide_eq_decide.2 key)
        clear hr key g3
        go_enter Try.func35, Try.ntmps35
        go_wp2
        go_ret
        exact ⟨by rw [R1.out]; rfl, rfl⟩
set_option maxHeartbeats 2000000 in
theorem rgood_calls (A : Option Addr) (n c : Nat) (off rows cols ld : Int) (w : World) (hs : (n : Int) ≤ lim) (h1 : I64 off) (h2 : I64 rows) (h3 : I64 cols) (h4 : I64 ld) (r : Bool) (hr : r = decide (goodP n off rows cols ld)) :
    Calls Try.prog 11 #[.agg #[.slice A n c, .int .i64 off, .int .i64 rows, .int .i64 cols, .int .i64 ld]] w
      fun e w' => e = .returned (.bool r) ∧ Below w.heap.size w w' := by
  have H1 := h1; have H2 := h2; have H3 := h3; have H4 := h4
  unfold I64 at h1 h2 h3 h4
  by_cases hg : 0 ≤ rows ∧ 0 ≤ cols ∧ 0 ≤ off ∧ 1 ≤ ld ∧ rows ≤ ld
  · obtain ⟨a1, a2, a3, a4, a5⟩ := hg
    by_cases b1 : rows = 0
    · have R1 := Lib.hid (show r = true by rw [hr]; exact decide_eq_true (by unfold goodP; omega))
      clear hr
      have e1 : (rows == 0) = true := by simp [b1]
      clear b1
      go_enter Try.func11, Try.ntmps11
      go_wp2
      go_ret
      exact ⟨by rw [R1.out]; rfl, (Below.refl _ _).alloc (Nat.le_refl _) _⟩
    · have e1 : (rows == 0) = false := by simp [b1]
      by_cases b2 : cols = 0
      · have R1 := Lib.hid (show r = true by rw [hr]; exact decide_eq_true (by unfold goodP; omega))
        clear hr
        have e2 : (cols == 0) = true := by simp [b2]
        clear b2
        go_enter Try.func11, Try.ntmps11
        go_wp2
        go_ret
        exact ⟨by rw [R1.out]; rfl, (Below.refl _ _).alloc (Nat.le_refl _) _⟩
      · have e2 : (cols == 0) = false := by simp [b2]
        have R1 := Lib.hid (show r = decide (fitsP n off (cols - 1) ld (rows - 1)) by rw [hr]; exact decide_eq_decide.2 (by unfold goodP; simp [a1, a2, a3, a4, a5, b1, b2]))
        clear hr
        have b1' : 1 ≤ rows := by omega
        have b2' : 1 ≤ cols := by omega
        clear b1 b2
        go_enter Try.func11, Try.ntmps11
        go_wp2_with (go_at_call 35; refine (within_calls _ _ _ _ _ _ a3 (by omega) a4 (by omega) (by omega) hs H1 (by unfold I64; omega) H4 (by unfold I64; omega) r R1.out).mono ?_; rintro e w' ⟨rfl, rfl⟩)
        go_ret
        exact ⟨rfl, (Below.refl _ _).alloc (Nat.le_refl _) _⟩
  · have R1 := Lib.hid (show r = false by rw [hr]; exact decide_eq_false (by unfold goodP; omega))
    clear hr
    have key : rows < 0 ∨ (0 ≤ rows ∧ cols < 0) ∨ (0 ≤ rows ∧ 0 ≤ cols ∧ ld < 1) ∨ (0 ≤ rows ∧ 0 ≤ cols ∧ 1 ≤ ld ∧ ld < rows) ∨ (0 ≤ rows ∧ 0 ≤ cols ∧ 1 ≤ ld ∧ rows ≤ ld ∧ off < 0) := by omega
    clear hg
    rcases key with a1 | ⟨a1, a2⟩ | ⟨a1, a2, a3⟩ | ⟨a1, a2, a3, a4⟩ | ⟨a1, a2, a3, a4, a5⟩
    all_goals
      go_enter Try.func11, Try.ntmps11
      go_wp2
      go_ret
      exact ⟨by rw [R1.out]; rfl, (Below.refl _ _).alloc (Nat.le_refl _) _⟩
/-- A matrix' span. -/
def spanA (off rows cols : Int) : Int := if rows = 0 ∨ cols = 0 then 0 else off
def spanB (off rows cols ld : Int) : Int := if rows = 0 ∨ cols = 0 then -1 else lastOf off rows cols ld
set_option maxHeartbeats 1000000 in
theorem mspan_calls (A : Option Addr) (n c : Nat) (off rows cols ld : Int) (w : World) (hs : (n : Int) ≤ lim) (hg : goodP n off rows cols ld) (h1 : I64 off) (h2 : I64 rows) (h3 : I64 cols) (h4 : I64 ld) :
    Calls Try.prog 14 #[.agg #[.slice A n c, .int .i64 off, .int .i64 rows, .int .i64 cols, .int .i64 ld]] w
      fun e w' => e = .returned (.tuple #[.int .i64 (spanA off rows cols), .int .i64 (spanB off rows cols ld)]) ∧ Below w.heap.size w w' := by
  unfold lim at hs
  unfold I64 at *
  obtain ⟨sa, hsa⟩ : ∃ sa, sa = spanA off rows cols := ⟨_, rfl⟩
  obtain ⟨sb, hsb⟩ : ∃ sb, sb = spanB off rows cols ld := ⟨_, rfl⟩
  rw [← hsa, ← hsb]
  by_cases h0 : rows = 0 ∨ cols = 0
  · have R1 := Lib.hid (show sa = 0 ∧ sb = -1 by rw [hsa, hsb]; unfold spanA spanB; rw [if_pos h0, if_pos h0]; exact ⟨rfl, rfl⟩)
    clear hsa hsb
    have key : (rows == 0) = true ∨ ((rows == 0) = false ∧ (cols == 0) = true) := by
      by_cases h : rows = 0
      · left; simp [h]
      · right; simp [h]; omega
    clear h0
    rcases key with e1 | ⟨e1, e2⟩
    all_goals
      go_enter Try.func14, Try.ntmps14
      go_wp2
      go_ret2
      exact ⟨by rw [R1.out.1, R1.out.2]; rfl, (Below.refl _ _).alloc (Nat.le_refl _) _⟩
  · have hr : 0 < rows := by have := hg.1; omega
    have hc : 0 < cols := by have := hg.2.1; omega
    obtain ⟨g1, g2, g3, g4⟩ := last_lt hg hr hc
    have hld := hg.2.2.2.1
    have hrl := hg.2.2.2.2.1
    obtain ⟨q, hq⟩ : ∃ q, q = (cols - 1) * ld := ⟨_, rfl⟩
    have R1 := Lib.hid (show sa = off ∧ sb = off + q + rows - 1 by rw [hsa, hsb]; unfold spanA spanB; rw [if_neg h0, if_neg h0, hq]; exact ⟨rfl, rfl⟩)
    unfold lastOf at g3 g4
    rw [← hq] at g1 g3 g4
    have eq : (cols - 1) * ld = q := hq.symm
    clear hsa hsb hg hq
    have e1 : (rows == 0) = false := by rw [beq_eq_false_iff_ne]; omega
    have e2 : (cols == 0) = false := by rw [beq_eq_false_iff_ne]; omega
    clear h0
    go_enter Try.func14, Try.ntmps14
    go_wp2
    go_quiet (fail)
    go_wp2
    go_ret2
    exact ⟨by rw [R1.out.1, R1.out.2]; rfl, by repeat (first | exact Below.refl _ _ | refine BL.drewN ?_ _ | refine Below.alloc ?_ (by first | (simp; done) | (simp; omega)) _)⟩
set_option maxHeartbeats 1000000 in
theorem spans_calls (a b c d : Int) (w : World) (r : Bool) (hr : r = decide (a ≤ b ∧ c ≤ d ∧ a ≤ d ∧ c ≤ b)) :
    Calls Try.prog 15 #[.int .i64 a, .int .i64 b, .int .i64 c, .int .i64 d] w fun e w' => e = .returned (.bool r) ∧ w' = w := by
  by_cases h1 : a ≤ b
  · by_cases h2 : c ≤ d
    · by_cases h3 : a ≤ d
      · have R1 := Lib.hid (show r = decide (c ≤ b) by rw [hr]; exact decide_eq_decide.2 (by omega))
        clear hr
        go_enter Try.func15, Try.ntmps15
        go_wp2
        go_ret
        exact ⟨by rw [R1.out]; rfl, rfl⟩
      · have R1 := Lib.hid (show r = false by rw [hr]; exact decide_eq_false (by omega))
        have e3 : decide (a ≤ d) = false := decide_eq_false h3
        clear hr h3
        go_enter Try.func15, Try.ntmps15
        go_wp2
        go_ret
        exact ⟨by rw [R1.out]; rfl, rfl⟩
    · have R1 := Lib.hid (show r = false by rw [hr]; exact decide_eq_false (by omega))
      have e3 : decide (c ≤ d) = false := decide_eq_false h2
      clear hr h2
      go_enter Try.func15, Try.ntmps15
      go_wp2
      go_ret
      exact ⟨by rw [R1.out]; rfl, rfl⟩
  · have R1 := Lib.hid (show r = false by rw [hr]; exact decide_eq_false (by omega))
    have e3 : decide (a ≤ b) = false := decide_eq_false h1
    clear hr h1
    go_enter Try.func15, Try.ntmps15
    go_wp2
    go_ret
    exact ⟨by rw [R1.out]; rfl, rfl⟩
end Go.Proofs.Ytapilgbbkbfcbaa
