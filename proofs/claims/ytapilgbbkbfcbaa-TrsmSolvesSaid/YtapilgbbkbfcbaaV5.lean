/- Layer 3: whether two matrices meet: what the code computes. -/
import Derived.Test.YtapilgbbkbfcbaaV4
import Derived.LaidEqlPtr
namespace Go.Proofs.Ytapilgbbkbfcbaa
open Go Go.RowKit
/-- Two addresses that can be told apart: both in rows of cells that aren't empty, one of them no string's. -/
def ApartOK (w : World) (a b : Addr) : Prop := ∃ (ca cb : Array Value) (ta tb : TypeId) (fa fb : Nat × Nat), w.heap[a.block]? = some (.cells ca ta fa) ∧ w.heap[b.block]? = some (.cells cb tb fb) ∧ ca.size ≠ 0 ∧ cb.size ≠ 0 ∧ (fa = (0, 0) ∨ fb = (0, 0))
theorem ApartOK.later {W w : World} {a b : Addr} (h : BL W w) (hh : ApartOK W a b) : ApartOK w a b := by
  obtain ⟨ca, cb, ta, tb, fa, fb, h1, h2, h3⟩ := hh
  exact ⟨ca, cb, ta, tb, fa, fb, h.row h1, h.row h2, h3⟩
theorem ptr_apart {P : Program} (w : World) {tp te : TypeId} {j : TypeInfo} {a b : Addr} (hp : P.underlying tp = some (.pointer te)) (hte : P.info? te = some j) (hsz : j.size ≠ 0)
    (hne : a ≠ b) (hab : ApartOK w a b) : (binOp .eql tp (.pointer (some a)) (.pointer (some b))).run P w = .ok (.bool false) w := by
  obtain ⟨ca, cb, ta, tb, fa, fb, ha, hb, hz, hz', hf⟩ := hab
  have hs : (sameAddr a b).run P w = .ok false w := by
    by_cases hbl : a.block = b.block
    · simp [sameAddr, hbl, hne]
    · obtain ⟨k, hk⟩ : ∃ k, ca.size = k + 1 := ⟨ca.size - 1, by omega⟩
      obtain ⟨k', hk'⟩ : ∃ k, cb.size = k + 1 := ⟨cb.size - 1, by omega⟩
      rcases hf with hf | hf
      · subst hf
        simp [sameAddr, hbl, World.frozen?, ha, hb, noView, viewAt, World.shape?, mayBeOne, stringish, hk, hk']
      · subst hf
        simp [sameAddr, hbl, World.frozen?, ha, hb, noView, viewAt, World.shape?, mayBeOne, stringish, hk, hk']
  have h : ∀ d : Nat, (Op.equalIn (d + 1) tp (.pointer (some a)) (.pointer (some b))).run P w = .ok false w := fun d => by
    simp [Op.equalIn, run_underlying hp, sizeOf, typeInfo, hte, hsz, hs]
  simp only [binOp]
  simp [Op.equal, Op.maxDepth, h 9999]
theorem infoF : (Try.prog.info? 45).map (fun i => (i.zero, i.size, i.bytes)) = some (some (.float .f64 0), 1, 8) := by kernel_rfl
set_option maxRecDepth 100000
set_option maxHeartbeats 1000000 in
theorem meet_off1 (A : Option Addr) ( n c : Nat) (off rows cols ld : Int) (A' : Option Addr) ( n' c' : Nat) (off' rows' cols' ld' : Int) (w : World) (hs : (n : Int) ≤ lim) (h1 : I64 off) (h2 : I64 rows) (h3 : I64 cols) (h4 : I64 ld) (hg : goodP n off rows cols ld)
    (hs' : (n' : Int) ≤ lim) (h1' : I64 off') (h2' : I64 rows') (h3' : I64 cols') (h4' : I64 ld') (hg' : goodP n' off' rows' cols' ld') (hr : ¬ (0 < rows ∧ 0 < cols)) (hr' : ¬ (0 < rows' ∧ 0 < cols')) :
    Calls Try.prog 61 #[.agg #[.slice A n c, .int .i64 off, .int .i64 rows, .int .i64 cols, .int .i64 ld], .agg #[.slice A' n' c', .int .i64 off', .int .i64 rows', .int .i64 cols', .int .i64 ld']] w
      fun e w' => e = .returned (.bool false) ∧ Below w.heap.size w w' := by
  have HG := Lib.hid hg
  have HG' := Lib.hid hg'
  clear hg hg'
  go_enter Try.func61, Try.ntmps61
  go_wp2_with fail
  refine (span_none _ _ _ _ _ _ _ _ hs h1 h2 h3 h4 HG.out hr).mono ?_
  rintro e w1 ⟨rfl, hb1⟩
  obtain ⟨hc1, hf1⟩ := bcell hb1
  have hz1 : w.heap.size + 1 < w1.heap.size := (by have := hb1.size; simp at this; omega)
  have hz2 : w.heap.size < w1.heap.size := (by omega)
  go_wp2_with fail
  refine (span_none _ _ _ _ _ _ _ _ hs' h1' h2' h3' h4' HG'.out hr').mono ?_
  rintro e w2 ⟨rfl, hb2⟩
  obtain ⟨hc2, hf2⟩ := bcell hb2
  go_wp2
  go_quiet (fail)
  go_wp2
  go_ret
  exact ⟨rfl, (BL.drewN (W := w) ((((Below.refl w.heap.size w).alloc (Nat.le_refl _) _).alloc (by simp) _).trans ((hb1.mono (by first | (simp; done) | (simp; omega))).trans (hb2.mono (by omega)))) _)⟩
set_option maxHeartbeats 1000000 in
theorem meet_off2 (A : Option Addr) ( n c : Nat) (off rows cols ld : Int) (A' : Option Addr) ( n' c' : Nat) (off' rows' cols' ld' : Int) (w : World) (hs : (n : Int) ≤ lim) (h1 : I64 off) (h2 : I64 rows) (h3 : I64 cols) (h4 : I64 ld) (hg : goodP n off rows cols ld)
    (hs' : (n' : Int) ≤ lim) (h1' : I64 off') (h2' : I64 rows') (h3' : I64 cols') (h4' : I64 ld') (hg' : goodP n' off' rows' cols' ld') (hr : ¬ (0 < rows ∧ 0 < cols)) (hr' : 0 < rows') (hc' : 0 < cols') :
    Calls Try.prog 61 #[.agg #[.slice A n c, .int .i64 off, .int .i64 rows, .int .i64 cols, .int .i64 ld], .agg #[.slice A' n' c', .int .i64 off', .int .i64 rows', .int .i64 cols', .int .i64 ld']] w
      fun e w' => e = .returned (.bool false) ∧ Below w.heap.size w w' := by
  have HG := Lib.hid hg
  have HG' := Lib.hid hg'
  clear hg hg'
  go_enter Try.func61, Try.ntmps61
  go_wp2_with fail
  refine (span_none _ _ _ _ _ _ _ _ hs h1 h2 h3 h4 HG.out hr).mono ?_
  rintro e w1 ⟨rfl, hb1⟩
  obtain ⟨hc1, hf1⟩ := bcell hb1
  have hz1 : w.heap.size + 1 < w1.heap.size := (by have := hb1.size; simp at this; omega)
  have hz2 : w.heap.size < w1.heap.size := (by omega)
  go_wp2_with fail
  refine (span_full _ _ _ _ _ _ _ _ hs' h1' h2' h3' h4' HG'.out hr' hc').mono ?_
  rintro e w2 ⟨rfl, hb2⟩
  obtain ⟨hc2, hf2⟩ := bcell hb2
  go_wp2
  go_quiet (fail)
  go_wp2
  go_ret
  exact ⟨rfl, (BL.drewN (W := w) ((((Below.refl w.heap.size w).alloc (Nat.le_refl _) _).alloc (by simp) _).trans ((hb1.mono (by first | (simp; done) | (simp; omega))).trans (hb2.mono (by omega)))) _)⟩
set_option maxHeartbeats 1000000 in
theorem meet_off3 (A : Option Addr) ( n c : Nat) (off rows cols ld : Int) (A' : Option Addr) ( n' c' : Nat) (off' rows' cols' ld' : Int) (w : World) (hs : (n : Int) ≤ lim) (h1 : I64 off) (h2 : I64 rows) (h3 : I64 cols) (h4 : I64 ld) (hg : goodP n off rows cols ld)
    (hs' : (n' : Int) ≤ lim) (h1' : I64 off') (h2' : I64 rows') (h3' : I64 cols') (h4' : I64 ld') (hg' : goodP n' off' rows' cols' ld') (hr : 0 < rows) (hc : 0 < cols) (hr' : ¬ (0 < rows' ∧ 0 < cols')) :
    Calls Try.prog 61 #[.agg #[.slice A n c, .int .i64 off, .int .i64 rows, .int .i64 cols, .int .i64 ld], .agg #[.slice A' n' c', .int .i64 off', .int .i64 rows', .int .i64 cols', .int .i64 ld']] w
      fun e w' => e = .returned (.bool false) ∧ Below w.heap.size w w' := by
  have HG := Lib.hid hg
  have HG' := Lib.hid hg'
  clear hg hg'
  go_enter Try.func61, Try.ntmps61
  go_wp2_with fail
  refine (span_full _ _ _ _ _ _ _ _ hs h1 h2 h3 h4 HG.out hr hc).mono ?_
  rintro e w1 ⟨rfl, hb1⟩
  obtain ⟨hc1, hf1⟩ := bcell hb1
  have hz1 : w.heap.size + 1 < w1.heap.size := (by have := hb1.size; simp at this; omega)
  have hz2 : w.heap.size < w1.heap.size := (by omega)
  go_wp2_with fail
  refine (span_none _ _ _ _ _ _ _ _ hs' h1' h2' h3' h4' HG'.out hr').mono ?_
  rintro e w2 ⟨rfl, hb2⟩
  obtain ⟨hc2, hf2⟩ := bcell hb2
  go_wp2
  go_quiet (fail)
  go_wp2
  go_ret
  exact ⟨rfl, (BL.drewN (W := w) ((((Below.refl w.heap.size w).alloc (Nat.le_refl _) _).alloc (by simp) _).trans ((hb1.mono (by first | (simp; done) | (simp; omega))).trans (hb2.mono (by omega)))) _)⟩
set_option maxHeartbeats 1000000 in
theorem meet_apart (a : Addr) ( n c : Nat) (off rows cols ld : Int) (a' : Addr) ( n' c' : Nat) (off' rows' cols' ld' : Int) (w : World) (hs : (n : Int) ≤ lim) (h1 : I64 off) (h2 : I64 rows) (h3 : I64 cols) (h4 : I64 ld) (hg : goodP n off rows cols ld)
    (hs' : (n' : Int) ≤ lim) (h1' : I64 off') (h2' : I64 rows') (h3' : I64 cols') (h4' : I64 ld') (hg' : goodP n' off' rows' cols' ld') (hr : 0 < rows) (hc : 0 < cols) (hr' : 0 < rows') (hc' : 0 < cols') (hne : a ≠ a') (hab : ApartOK w a a') :
    Calls Try.prog 61 #[.agg #[.slice (some a) n c, .int .i64 off, .int .i64 rows, .int .i64 cols, .int .i64 ld], .agg #[.slice (some a') n' c', .int .i64 off', .int .i64 rows', .int .i64 cols', .int .i64 ld']] w
      fun e w' => e = .returned (.bool false) ∧ Below w.heap.size w w' := by
  have HG := Lib.hid hg
  have HG' := Lib.hid hg'
  obtain ⟨a1, a2, a3, a4⟩ := last_lt hg hr hc
  obtain ⟨b1, b2, b3, b4⟩ := last_lt hg' hr' hc'
  have i1 : (0 : Int) < n := by omega
  have i2 : (0 : Int) < n' := by omega
  clear hg hg'
  go_enter Try.func61, Try.ntmps61
  go_wp2_with fail
  refine (span_full _ _ _ _ _ _ _ _ hs h1 h2 h3 h4 HG.out hr hc).mono ?_
  rintro e w1 ⟨rfl, hb1⟩
  obtain ⟨hc1, hf1⟩ := bcell hb1
  have hz1 : w.heap.size + 1 < w1.heap.size := (by have := hb1.size; simp at this; omega)
  have hz2 : w.heap.size < w1.heap.size := (by omega)
  go_wp2_with fail
  refine (span_full _ _ _ _ _ _ _ _ hs' h1' h2' h3' h4' HG'.out hr' hc').mono ?_
  rintro e w2 ⟨rfl, hb2⟩
  obtain ⟨hc2, hf2⟩ := bcell hb2
  have hB : BL w w2 := (((Below.refl w.heap.size w).alloc (Nat.le_refl _) _).alloc (by simp) _).trans ((hb1.mono (by first | (simp; done) | (simp; omega))).trans (hb2.mono (by omega)))
  obtain ⟨j, hj, _, hj2, _⟩ := info_parts infoF
  have hq : ∀ n, (binOp .eql 131 (.pointer (some a)) (.pointer (some a'))).run Try.prog (w2.drewN n) = .ok (.bool false) (w2.drewN n) := fun n => ptr_apart (w2.drewN n) (te := 45) (by kernel_rfl) hj (by omega) hne (hab.later (BL.drewN hB n))
  clear hj hj2
  go_wp2
  go_quiet (fail)
  go_wp2
  go_ret
  exact ⟨rfl, (BL.drewN (W := w) ((((Below.refl w.heap.size w).alloc (Nat.le_refl _) _).alloc (by simp) _).trans ((hb1.mono (by first | (simp; done) | (simp; omega))).trans (hb2.mono (by omega)))) _)⟩
set_option maxHeartbeats 1000000 in
theorem meet_hit (a : Addr) ( n c : Nat) (off rows cols ld : Int) ( n' c' : Nat) (off' rows' cols' ld' : Int) (w : World) (hs : (n : Int) ≤ lim) (h1 : I64 off) (h2 : I64 rows) (h3 : I64 cols) (h4 : I64 ld) (hg : goodP n off rows cols ld)
    (hs' : (n' : Int) ≤ lim) (h1' : I64 off') (h2' : I64 rows') (h3' : I64 cols') (h4' : I64 ld') (hg' : goodP n' off' rows' cols' ld') (hr : 0 < rows) (hc : 0 < cols) (hr' : 0 < rows') (hc' : 0 < cols') (hl : off ≤ lastOf off' rows' cols' ld') (hl' : off' ≤ lastOf off rows cols ld) :
    Calls Try.prog 61 #[.agg #[.slice (some a) n c, .int .i64 off, .int .i64 rows, .int .i64 cols, .int .i64 ld], .agg #[.slice (some a) n' c', .int .i64 off', .int .i64 rows', .int .i64 cols', .int .i64 ld']] w
      fun e w' => e = .returned (.bool true) ∧ Below w.heap.size w w' := by
  have HG := Lib.hid hg
  have HG' := Lib.hid hg'
  obtain ⟨a1, a2, a3, a4⟩ := last_lt hg hr hc
  obtain ⟨b1, b2, b3, b4⟩ := last_lt hg' hr' hc'
  have i1 : (0 : Int) < n := by omega
  have i2 : (0 : Int) < n' := by omega
  clear hg hg'
  go_enter Try.func61, Try.ntmps61
  go_wp2_with fail
  refine (span_full _ _ _ _ _ _ _ _ hs h1 h2 h3 h4 HG.out hr hc).mono ?_
  rintro e w1 ⟨rfl, hb1⟩
  obtain ⟨hc1, hf1⟩ := bcell hb1
  have hz1 : w.heap.size + 1 < w1.heap.size := (by have := hb1.size; simp at this; omega)
  have hz2 : w.heap.size < w1.heap.size := (by omega)
  go_wp2_with fail
  refine (span_full _ _ _ _ _ _ _ _ hs' h1' h2' h3' h4' HG'.out hr' hc').mono ?_
  rintro e w2 ⟨rfl, hb2⟩
  obtain ⟨hc2, hf2⟩ := bcell hb2
  have hB : BL w w2 := (((Below.refl w.heap.size w).alloc (Nat.le_refl _) _).alloc (by simp) _).trans ((hb1.mono (by first | (simp; done) | (simp; omega))).trans (hb2.mono (by omega)))
  obtain ⟨j, hj, _, hj2, _⟩ := info_parts infoF
  have hq : ∀ n, (binOp .eql 131 (.pointer (some a)) (.pointer (some a))).run Try.prog (w2.drewN n) = .ok (.bool true) (w2.drewN n) := fun n => run_eql_ptr_same (w2.drewN n) (te := 45) a (by kernel_rfl) hj
  clear hj hj2
  go_wp2
  go_quiet (fail)
  go_wp2
  go_ret
  exact ⟨rfl, (BL.drewN (W := w) ((((Below.refl w.heap.size w).alloc (Nat.le_refl _) _).alloc (by simp) _).trans ((hb1.mono (by first | (simp; done) | (simp; omega))).trans (hb2.mono (by omega)))) _)⟩
set_option maxHeartbeats 1000000 in
theorem meet_miss1 (a : Addr) ( n c : Nat) (off rows cols ld : Int) ( n' c' : Nat) (off' rows' cols' ld' : Int) (w : World) (hs : (n : Int) ≤ lim) (h1 : I64 off) (h2 : I64 rows) (h3 : I64 cols) (h4 : I64 ld) (hg : goodP n off rows cols ld)
    (hs' : (n' : Int) ≤ lim) (h1' : I64 off') (h2' : I64 rows') (h3' : I64 cols') (h4' : I64 ld') (hg' : goodP n' off' rows' cols' ld') (hr : 0 < rows) (hc : 0 < cols) (hr' : 0 < rows') (hc' : 0 < cols') (hl : ¬ off ≤ lastOf off' rows' cols' ld') :
    Calls Try.prog 61 #[.agg #[.slice (some a) n c, .int .i64 off, .int .i64 rows, .int .i64 cols, .int .i64 ld], .agg #[.slice (some a) n' c', .int .i64 off', .int .i64 rows', .int .i64 cols', .int .i64 ld']] w
      fun e w' => e = .returned (.bool false) ∧ Below w.heap.size w w' := by
  have HG := Lib.hid hg
  have HG' := Lib.hid hg'
  obtain ⟨a1, a2, a3, a4⟩ := last_lt hg hr hc
  obtain ⟨b1, b2, b3, b4⟩ := last_lt hg' hr' hc'
  have i1 : (0 : Int) < n := by omega
  have i2 : (0 : Int) < n' := by omega
  clear hg hg'
  go_enter Try.func61, Try.ntmps61
  go_wp2_with fail
  refine (span_full _ _ _ _ _ _ _ _ hs h1 h2 h3 h4 HG.out hr hc).mono ?_
  rintro e w1 ⟨rfl, hb1⟩
  obtain ⟨hc1, hf1⟩ := bcell hb1
  have hz1 : w.heap.size + 1 < w1.heap.size := (by have := hb1.size; simp at this; omega)
  have hz2 : w.heap.size < w1.heap.size := (by omega)
  go_wp2_with fail
  refine (span_full _ _ _ _ _ _ _ _ hs' h1' h2' h3' h4' HG'.out hr' hc').mono ?_
  rintro e w2 ⟨rfl, hb2⟩
  obtain ⟨hc2, hf2⟩ := bcell hb2
  have hB : BL w w2 := (((Below.refl w.heap.size w).alloc (Nat.le_refl _) _).alloc (by simp) _).trans ((hb1.mono (by first | (simp; done) | (simp; omega))).trans (hb2.mono (by omega)))
  obtain ⟨j, hj, _, hj2, _⟩ := info_parts infoF
  have hq : ∀ n, (binOp .eql 131 (.pointer (some a)) (.pointer (some a))).run Try.prog (w2.drewN n) = .ok (.bool true) (w2.drewN n) := fun n => run_eql_ptr_same (w2.drewN n) (te := 45) a (by kernel_rfl) hj
  clear hj hj2
  go_wp2
  have hl1 : decide (off ≤ lastOf off' rows' cols' ld') = false := decide_eq_false (by omega)
  clear hl
  go_quiet (fail)
  go_wp2
  go_ret
  exact ⟨rfl, (BL.drewN (W := w) ((((Below.refl w.heap.size w).alloc (Nat.le_refl _) _).alloc (by simp) _).trans ((hb1.mono (by first | (simp; done) | (simp; omega))).trans (hb2.mono (by omega)))) _)⟩
set_option maxHeartbeats 1000000 in
theorem meet_miss2 (a : Addr) ( n c : Nat) (off rows cols ld : Int) ( n' c' : Nat) (off' rows' cols' ld' : Int) (w : World) (hs : (n : Int) ≤ lim) (h1 : I64 off) (h2 : I64 rows) (h3 : I64 cols) (h4 : I64 ld) (hg : goodP n off rows cols ld)
    (hs' : (n' : Int) ≤ lim) (h1' : I64 off') (h2' : I64 rows') (h3' : I64 cols') (h4' : I64 ld') (hg' : goodP n' off' rows' cols' ld') (hr : 0 < rows) (hc : 0 < cols) (hr' : 0 < rows') (hc' : 0 < cols') (hl : off ≤ lastOf off' rows' cols' ld') (hl' : ¬ off' ≤ lastOf off rows cols ld) :
    Calls Try.prog 61 #[.agg #[.slice (some a) n c, .int .i64 off, .int .i64 rows, .int .i64 cols, .int .i64 ld], .agg #[.slice (some a) n' c', .int .i64 off', .int .i64 rows', .int .i64 cols', .int .i64 ld']] w
      fun e w' => e = .returned (.bool false) ∧ Below w.heap.size w w' := by
  have HG := Lib.hid hg
  have HG' := Lib.hid hg'
  obtain ⟨a1, a2, a3, a4⟩ := last_lt hg hr hc
  obtain ⟨b1, b2, b3, b4⟩ := last_lt hg' hr' hc'
  have i1 : (0 : Int) < n := by omega
  have i2 : (0 : Int) < n' := by omega
  clear hg hg'
  go_enter Try.func61, Try.ntmps61
  go_wp2_with fail
  refine (span_full _ _ _ _ _ _ _ _ hs h1 h2 h3 h4 HG.out hr hc).mono ?_
  rintro e w1 ⟨rfl, hb1⟩
  obtain ⟨hc1, hf1⟩ := bcell hb1
  have hz1 : w.heap.size + 1 < w1.heap.size := (by have := hb1.size; simp at this; omega)
  have hz2 : w.heap.size < w1.heap.size := (by omega)
  go_wp2_with fail
  refine (span_full _ _ _ _ _ _ _ _ hs' h1' h2' h3' h4' HG'.out hr' hc').mono ?_
  rintro e w2 ⟨rfl, hb2⟩
  obtain ⟨hc2, hf2⟩ := bcell hb2
  have hB : BL w w2 := (((Below.refl w.heap.size w).alloc (Nat.le_refl _) _).alloc (by simp) _).trans ((hb1.mono (by first | (simp; done) | (simp; omega))).trans (hb2.mono (by omega)))
  obtain ⟨j, hj, _, hj2, _⟩ := info_parts infoF
  have hq : ∀ n, (binOp .eql 131 (.pointer (some a)) (.pointer (some a))).run Try.prog (w2.drewN n) = .ok (.bool true) (w2.drewN n) := fun n => run_eql_ptr_same (w2.drewN n) (te := 45) a (by kernel_rfl) hj
  clear hj hj2
  go_wp2
  have hl1 : decide (off' ≤ lastOf off rows cols ld) = false := decide_eq_false (by omega)
  clear hl'
  go_quiet (fail)
  go_wp2
  go_ret
  exact ⟨rfl, (BL.drewN (W := w) ((((Below.refl w.heap.size w).alloc (Nat.le_refl _) _).alloc (by simp) _).trans ((hb1.mono (by first | (simp; done) | (simp; omega))).trans (hb2.mono (by omega)))) _)⟩

/-- Whether two right matrices meet. -/
theorem meet_any (A : Option Addr) (n c : Nat) (off rows cols ld : Int) (A' : Option Addr) (n' c' : Nat) (off' rows' cols' ld' : Int) (w : World) (hs : (n : Int) ≤ lim) (h1 : I64 off) (h2 : I64 rows) (h3 : I64 cols) (h4 : I64 ld) (hg : goodP n off rows cols ld)
    (hs' : (n' : Int) ≤ lim) (h1' : I64 off') (h2' : I64 rows') (h3' : I64 cols') (h4' : I64 ld') (hg' : goodP n' off' rows' cols' ld')
    (hA : 0 < n → ∃ a, A = some a) (hA' : 0 < n' → ∃ a, A' = some a) (hab : ∀ a a', A = some a → A' = some a' → a ≠ a' → ApartOK w a a') :
    Calls Try.prog 61 #[.agg #[.slice A n c, .int .i64 off, .int .i64 rows, .int .i64 cols, .int .i64 ld], .agg #[.slice A' n' c', .int .i64 off', .int .i64 rows', .int .i64 cols', .int .i64 ld']] w
      fun e w' => e = .returned (.bool (decide (meetP A off rows cols ld A' off' rows' cols' ld'))) ∧ Below w.heap.size w w' := by
  by_cases hr : 0 < rows ∧ 0 < cols
  · by_cases hr' : 0 < rows' ∧ 0 < cols'
    · obtain ⟨a1, a2, a3, a4⟩ := last_lt hg hr.1 hr.2
      obtain ⟨b1, b2, b3, b4⟩ := last_lt hg' hr'.1 hr'.2
      obtain ⟨a, rfl⟩ := hA (by omega)
      obtain ⟨a', rfl⟩ := hA' (by omega)
      by_cases hne : a = a'
      · subst hne
        by_cases hl : off ≤ lastOf off' rows' cols' ld'
        · by_cases hl' : off' ≤ lastOf off rows cols ld
          · rw [decide_eq_true (show meetP _ _ _ _ _ _ _ _ _ _ from ⟨hr, hr', rfl, hl, hl'⟩)]
            exact meet_hit a n c off rows cols ld n' c' off' rows' cols' ld' w hs h1 h2 h3 h4 hg hs' h1' h2' h3' h4' hg' hr.1 hr.2 hr'.1 hr'.2 hl hl'
          · rw [decide_eq_false (show ¬ meetP _ _ _ _ _ _ _ _ _ _ from fun h => hl' h.2.2.2.2)]
            exact meet_miss2 a n c off rows cols ld n' c' off' rows' cols' ld' w hs h1 h2 h3 h4 hg hs' h1' h2' h3' h4' hg' hr.1 hr.2 hr'.1 hr'.2 hl hl'
        · rw [decide_eq_false (show ¬ meetP _ _ _ _ _ _ _ _ _ _ from fun h => hl h.2.2.2.1)]
          exact meet_miss1 a n c off rows cols ld n' c' off' rows' cols' ld' w hs h1 h2 h3 h4 hg hs' h1' h2' h3' h4' hg' hr.1 hr.2 hr'.1 hr'.2 hl
      · rw [decide_eq_false (show ¬ meetP _ _ _ _ _ _ _ _ _ _ from fun h => hne (Option.some.inj h.2.2.1))]
        exact meet_apart a n c off rows cols ld a' n' c' off' rows' cols' ld' w hs h1 h2 h3 h4 hg hs' h1' h2' h3' h4' hg' hr.1 hr.2 hr'.1 hr'.2 hne (hab a a' rfl rfl hne)
    · rw [decide_eq_false (show ¬ meetP _ _ _ _ _ _ _ _ _ _ from fun h => hr' h.2.1)]
      exact meet_off3 A n c off rows cols ld A' n' c' off' rows' cols' ld' w hs h1 h2 h3 h4 hg hs' h1' h2' h3' h4' hg' hr.1 hr.2 hr'
  · rw [decide_eq_false (show ¬ meetP _ _ _ _ _ _ _ _ _ _ from fun h => hr h.1)]
    by_cases hr' : 0 < rows' ∧ 0 < cols'
    · exact meet_off2 A n c off rows cols ld A' n' c' off' rows' cols' ld' w hs h1 h2 h3 h4 hg hs' h1' h2' h3' h4' hg' hr hr'.1 hr'.2
    · exact meet_off1 A n c off rows cols ld A' n' c' off' rows' cols' ld' w hs h1 h2 h3 h4 hg hs' h1' h2' h3' h4' hg' hr hr'
end Go.Proofs.Ytapilgbbkbfcbaa
