/- Floats of 64 bits by their bits, NaNs as one: plain lemmas on the core's add, sub, mul, div, order, and on rounding. No condition. -/
import GoSem.Core.Float
import Derived.Laws.FloatBits
namespace Go.Proofs.Ytapilgbbkbfcbaa
open Ieee

/-- The one NaN. -/
def NANB : Nat := 9221120237041090561
/-- Is it a NaN? -/
def isN (b : Nat) : Bool := decide (9218868437227405312 < b % 9223372036854775808)
/-- The same number, NaNs as one. -/
def cn (b : Nat) : Nat := if isN b then NANB else b

theorem d_sw : double.signWeight = 9223372036854775808 := by decide
theorem d_bw : double.binade = 4503599627370496 := by decide
theorem d_iw : double.infRung = 9218868437227405312 := by decide
theorem d_lp : double.leastPlace = -1074 := by decide
theorem d_fb : double.fractionBits = 52 := rfl
theorem d_wd : 2 ^ double.width = 18446744073709551616 := by decide

theorem isN_NANB : isN NANB = true := by decide
theorem isN_cn (b : Nat) : isN (cn b) = isN b := by
  unfold cn; split
  · rename_i h; rw [h]; exact isN_NANB
  · rfl
theorem cn_cn (b : Nat) : cn (cn b) = cn b := by
  unfold cn
  by_cases h : isN b = true
  · simp [h, isN_NANB]
  · simp [h]
theorem cn_of {b : Nat} (h : isN b = false) : cn b = b := by simp [cn, h]
theorem cn_nan {b : Nat} (h : isN b = true) : cn b = NANB := by simp [cn, h]
theorem NANB_lt : NANB < 18446744073709551616 := by decide
theorem cn_lt {b : Nat} (h : b < 18446744073709551616) : cn b < 18446744073709551616 := by
  unfold cn; split
  · exact NANB_lt
  · exact h

theorem read_nan {b : Nat} (h : isN b = true) : ∃ s t, double.read b = .nan s t := by
  have h' : 9218868437227405312 < b % 9223372036854775808 := by simpa [isN] using h
  unfold Format.read
  simp only [d_sw, d_bw, d_iw]
  rw [if_neg (by omega), if_neg (by omega), if_neg (by omega)]
  exact ⟨_, _, rfl⟩
theorem read_notnan {b : Nat} (h : isN b = false) : (double.read b).isNaN = false := by
  have h' : ¬ 9218868437227405312 < b % 9223372036854775808 := by simpa [isN] using h
  unfold Format.read
  simp only [d_sw, d_bw, d_iw]
  split
  · rfl
  · split
    · rfl
    · rw [if_pos (by omega)]; rfl

theorem sum_nan_l (s t) (y : Datum) : Datum.sum (.nan s t) y = none := by cases y <;> rfl
theorem sum_nan_r (s t) (y : Datum) : Datum.sum y (.nan s t) = none := by cases y <;> rfl
theorem product_nan_l (s t) (y : Datum) : Datum.product (.nan s t) y = none := by cases y <;> rfl
theorem product_nan_r (s t) (y : Datum) : Datum.product y (.nan s t) = none := by cases y <;> rfl
theorem quotient_nan_l (d s t) (y : Datum) : Datum.quotient d (.nan s t) y = none := by cases y <;> rfl
theorem quotient_nan_r (d s t) (y : Datum) : Datum.quotient d y (.nan s t) = none := by cases y <;> rfl
theorem order_nan_l (s t) (y : Datum) : Datum.order (.nan s t) y = none := by cases y <;> rfl
theorem order_nan_r (s t) (y : Datum) : Datum.order y (.nan s t) = none := by cases y <;> rfl

theorem add_nan_l {a : Nat} (h : isN a = true) (b : Nat) : double.add a b = none := by
  obtain ⟨s, t, e⟩ := read_nan h; simp [Format.add, e, sum_nan_l]
theorem add_nan_r {a : Nat} (h : isN a = true) (b : Nat) : double.add b a = none := by
  obtain ⟨s, t, e⟩ := read_nan h; simp [Format.add, e, sum_nan_r]
theorem sub_nan_l {a : Nat} (h : isN a = true) (b : Nat) : double.sub a b = none := by
  obtain ⟨s, t, e⟩ := read_nan h; simp [Format.sub, e, sum_nan_l]
theorem sub_nan_r {a : Nat} (h : isN a = true) (b : Nat) : double.sub b a = none := by
  obtain ⟨s, t, e⟩ := read_nan h; simp [Format.sub, e, Datum.opposite, sum_nan_r]
theorem mul_nan_l {a : Nat} (h : isN a = true) (b : Nat) : double.mul a b = none := by
  obtain ⟨s, t, e⟩ := read_nan h; simp [Format.mul, e, product_nan_l]
theorem mul_nan_r {a : Nat} (h : isN a = true) (b : Nat) : double.mul b a = none := by
  obtain ⟨s, t, e⟩ := read_nan h; simp [Format.mul, e, product_nan_r]
theorem div_nan_l {a : Nat} (h : isN a = true) (b : Nat) : double.div a b = none := by
  obtain ⟨s, t, e⟩ := read_nan h; simp [Format.div, e, quotient_nan_l]
theorem div_nan_r {a : Nat} (h : isN a = true) (b : Nat) : double.div b a = none := by
  obtain ⟨s, t, e⟩ := read_nan h; simp [Format.div, e, quotient_nan_r]
theorem ord_nan_l {a : Nat} (h : isN a = true) (b : Nat) : double.order a b = none := by
  obtain ⟨s, t, e⟩ := read_nan h; simp [Format.order, e, order_nan_l]
theorem ord_nan_r {a : Nat} (h : isN a = true) (b : Nat) : double.order b a = none := by
  obtain ⟨s, t, e⟩ := read_nan h; simp [Format.order, e, order_nan_r]

/-- An operation that knows no NaN from another. -/
theorem two_cn {α : Type} (f : Nat → Nat → Option α) (hl : ∀ {a}, isN a = true → ∀ b, f a b = none) (hr : ∀ {a}, isN a = true → ∀ b, f b a = none) (a b : Nat) : f (cn a) (cn b) = f a b := by
  by_cases ha : isN a = true
  · rw [hl ha, hl (by rw [isN_cn]; exact ha)]
  · rw [cn_of (by simpa using ha)]
    by_cases hb : isN b = true
    · rw [hr hb, hr (by rw [isN_cn]; exact hb)]
    · rw [cn_of (by simpa using hb)]
theorem add_cn (a b : Nat) : double.add (cn a) (cn b) = double.add a b := two_cn _ add_nan_l add_nan_r a b
theorem sub_cn (a b : Nat) : double.sub (cn a) (cn b) = double.sub a b := two_cn _ sub_nan_l sub_nan_r a b
theorem mul_cn (a b : Nat) : double.mul (cn a) (cn b) = double.mul a b := two_cn _ mul_nan_l mul_nan_r a b
theorem div_cn (a b : Nat) : double.div (cn a) (cn b) = double.div a b := two_cn _ div_nan_l div_nan_r a b
theorem ord_cn (a b : Nat) : double.order (cn a) (cn b) = double.order a b := two_cn _ ord_nan_l ord_nan_r a b

theorem word_rung (s : Bool) {r : Nat} (h : r ≤ 9218868437227405312) : isN (double.word s r) = false := by
  unfold isN Format.word
  simp only [d_sw, decide_eq_false_iff_not]
  split <;> omega
theorem nearest_notN (s : Bool) (m : Nat) (p : Int) : isN (double.nearest s m p) = false := by
  unfold Format.nearest
  dsimp only
  split
  · exact word_rung s (by omega)
  · refine word_rung s ?_
    have := Nat.min_le_right (((max (p + m.log2 - double.fractionBits) double.leastPlace) - double.leastPlace).toNat * double.binade + Toward.even.cut s (m <<< (p - max (p + m.log2 - double.fractionBits) double.leastPlace).toNat) (max (p + m.log2 - double.fractionBits) double.leastPlace - p).toNat) double.infRung
    rw [d_iw] at this
    simpa [d_iw] using this

/-- A datum that is no NaN is written as no NaN. -/
theorem write_notN {d : Datum} (h : d.isNaN = false) : isN (double.write d) = false := by
  cases d with
  | number s m p => exact nearest_notN s m p
  | infinity s => exact word_rung s (by rw [d_iw]; exact Nat.le_refl _)
  | nan s t => cases h

theorem sum_notN {x y d : Datum} (h : Datum.sum x y = some d) : d.isNaN = false := by
  unfold Datum.sum at h
  split at h <;> (try split at h) <;> first | (cases h; rfl) | cases h
theorem product_notN {x y d : Datum} (h : Datum.product x y = some d) : d.isNaN = false := by
  unfold Datum.product at h
  split at h <;> (try split at h) <;> first | (cases h; rfl) | cases h
theorem quotient_notN {k : Nat} {x y d : Datum} (h : Datum.quotient k x y = some d) : d.isNaN = false := by
  unfold Datum.quotient at h
  split at h <;> (try split at h) <;> (try split at h) <;> first | (cases h; rfl) | cases h

theorem add_notN {a b r : Nat} (h : double.add a b = some r) : isN r = false := by
  unfold Format.add at h; obtain ⟨d, h1, h2⟩ := Option.map_eq_some_iff.1 h; rw [← h2]; exact write_notN (sum_notN h1)
theorem sub_notN {a b r : Nat} (h : double.sub a b = some r) : isN r = false := by
  unfold Format.sub at h; obtain ⟨d, h1, h2⟩ := Option.map_eq_some_iff.1 h; rw [← h2]; exact write_notN (sum_notN h1)
theorem mul_notN {a b r : Nat} (h : double.mul a b = some r) : isN r = false := by
  unfold Format.mul at h; obtain ⟨d, h1, h2⟩ := Option.map_eq_some_iff.1 h; rw [← h2]; exact write_notN (product_notN h1)
theorem div_notN {a b r : Nat} (h : double.div a b = some r) : isN r = false := by
  unfold Format.div at h; obtain ⟨d, h1, h2⟩ := Option.map_eq_some_iff.1 h; rw [← h2]; exact write_notN (quotient_notN h1)

/-! ### The operations, NaNs as one -/
def fadd (a b : Nat) : Nat := (double.add a b).getD NANB
def fsub (a b : Nat) : Nat := (double.sub a b).getD NANB
def fmul (a b : Nat) : Nat := (double.mul a b).getD NANB
def fdiv (a b : Nat) : Nat := (double.div a b).getD NANB
def feq (a b : Nat) : Bool := double.order a b == some .eq
def flt (a b : Nat) : Bool := double.order a b == some .lt
def fle (a b : Nat) : Bool := double.order a b == some .lt || double.order a b == some .eq
/-- Without its sign. -/
def fabs (a : Nat) : Nat := cn (a % 9223372036854775808)
/-- With the other sign. -/
def fneg (a : Nat) : Nat := cn ((a + 9223372036854775808) % 18446744073709551616)

theorem fadd_cn (a b : Nat) : fadd (cn a) (cn b) = fadd a b := by simp only [fadd, add_cn]
theorem fsub_cn (a b : Nat) : fsub (cn a) (cn b) = fsub a b := by simp only [fsub, sub_cn]
theorem fmul_cn (a b : Nat) : fmul (cn a) (cn b) = fmul a b := by simp only [fmul, mul_cn]
theorem fdiv_cn (a b : Nat) : fdiv (cn a) (cn b) = fdiv a b := by simp only [fdiv, div_cn]
theorem feq_cn (a b : Nat) : feq (cn a) (cn b) = feq a b := by simp only [feq, ord_cn]
theorem flt_cn (a b : Nat) : flt (cn a) (cn b) = flt a b := by simp only [flt, ord_cn]
theorem fle_cn (a b : Nat) : fle (cn a) (cn b) = fle a b := by simp only [fle, ord_cn]

theorem isN_eq {a b : Nat} (h : a % 9223372036854775808 = b % 9223372036854775808) : isN a = isN b := by unfold isN; rw [h]
theorem fabs_cn (a : Nat) : fabs (cn a) = fabs a := by
  by_cases h : isN a = true
  · have e1 : isN (a % 9223372036854775808) = true := by rw [← h]; exact isN_eq (by omega)
    rw [cn_nan h]; unfold fabs; rw [cn_nan e1]; decide
  · rw [cn_of (by simpa using h)]
theorem fneg_cn (a : Nat) : fneg (cn a) = fneg a := by
  by_cases h : isN a = true
  · have e1 : isN ((a + 9223372036854775808) % 18446744073709551616) = true := by rw [← h]; exact isN_eq (by omega)
    rw [cn_nan h]; unfold fneg; rw [cn_nan e1]; decide
  · rw [cn_of (by simpa using h)]
theorem cn_fadd (a b : Nat) : cn (fadd a b) = fadd a b := by
  unfold fadd; cases h : double.add a b with
  | none => decide
  | some r => exact cn_of (add_notN h)
theorem cn_fsub (a b : Nat) : cn (fsub a b) = fsub a b := by
  unfold fsub; cases h : double.sub a b with
  | none => decide
  | some r => exact cn_of (sub_notN h)
theorem cn_fmul (a b : Nat) : cn (fmul a b) = fmul a b := by
  unfold fmul; cases h : double.mul a b with
  | none => decide
  | some r => exact cn_of (mul_notN h)
theorem cn_fdiv (a b : Nat) : cn (fdiv a b) = fdiv a b := by
  unfold fdiv; cases h : double.div a b with
  | none => decide
  | some r => exact cn_of (div_notN h)
theorem feq_self (a : Nat) : feq a a = !isN a := by
  unfold feq
  by_cases h : isN a = true
  · rw [ord_nan_l h, h]; rfl
  · have h' : isN a = false := by simpa using h
    rw [h']
    have hd := read_notnan h'
    unfold Format.order
    cases hr : double.read a with
    | nan s t => rw [hr] at hd; cases hd
    | infinity s => simp [Datum.order]
    | number s m p => simp [Datum.order]
end Go.Proofs.Ytapilgbbkbfcbaa
