/- Signs, plainly: a number times -1, times 1; a sum with the other sign is a difference. No program here. -/
import Derived.Test.YtapilgbbkbfcbaaN1
namespace Go.Proofs.Ytapilgbbkbfcbaa
open Ieee

/-- The other sign. -/
def ng (x : Nat) : Nat := (x + 9223372036854775808) % 18446744073709551616
theorem ng_lt (x : Nat) : ng x < 18446744073709551616 := Nat.mod_lt _ (by decide)
theorem isN_ng (x : Nat) : isN (ng x) = isN x := isN_eq (by unfold ng; omega)
theorem read_ng (x : Nat) : double.read (ng x) = (double.read x).opposite := by
  have h1 : ng x % 9223372036854775808 = x % 9223372036854775808 := by unfold ng; omega
  have h2 : (ng x / 9223372036854775808 % 2 == 1) = !(x / 9223372036854775808 % 2 == 1) := by
    have : ng x / 9223372036854775808 % 2 = 1 - x / 9223372036854775808 % 2 := by unfold ng; omega
    rw [this]
    rcases Nat.mod_two_eq_zero_or_one (x / 9223372036854775808) with h | h <;> rw [h] <;> rfl
  unfold Format.read
  simp only [d_sw, d_bw, d_iw, h1, h2]
  split
  · rfl
  · split
    · rfl
    · split <;> rfl
theorem word_ng (s : Bool) {r : Nat} (h : r < 9223372036854775808) : double.word (!s) r = ng (double.word s r) := by
  unfold Format.word ng
  rw [d_sw]
  cases s <;> simp <;> omega
theorem nearest_rung (m : Nat) (p : Int) : ∃ r, r < 9223372036854775808 ∧ ∀ t, double.nearest t m p = double.word t r := by
  by_cases hm : m = 0
  · exact ⟨0, by decide, fun t => by unfold Format.nearest; rw [if_pos hm]⟩
  · refine ⟨min ((max (p + m.log2 - double.fractionBits) double.leastPlace - double.leastPlace).toNat * double.binade + Toward.even.cut false (m <<< (p - max (p + m.log2 - double.fractionBits) double.leastPlace).toNat) (max (p + m.log2 - double.fractionBits) double.leastPlace - p).toNat) double.infRung, ?_, fun t => ?_⟩
    · rw [d_iw]; omega
    · unfold Format.nearest; rw [if_neg hm]; rfl
theorem write_opposite {d : Datum} (h : d.isNaN = false) : double.write d.opposite = ng (double.write d) := by
  cases d with
  | number s m p =>
    obtain ⟨r, hr, ht⟩ := nearest_rung m p
    show double.nearest (!s) m p = ng (double.nearest s m p)
    rw [ht (!s), ht s]
    exact word_ng s hr
  | infinity s => exact word_ng s (by decide)
  | nan s t => cases h
theorem product_opposite (a b : Datum) : Datum.product a.opposite b = (Datum.product a b).map Datum.opposite := by
  cases a <;> cases b <;> simp only [Datum.opposite, Datum.product, Option.map_none, Option.map_some]
  all_goals (try split) <;> simp [Datum.opposite]
theorem product_comm (a b : Datum) : Datum.product a b = Datum.product b a := by
  cases a <;> cases b <;> simp only [Datum.product]
  all_goals first | rfl | (simp [Bool.xor_comm, Nat.mul_comm, Int.add_comm]; done) | (split <;> simp [Bool.xor_comm])
theorem mul_comm (a b : Nat) : double.mul a b = double.mul b a := by unfold Format.mul; rw [product_comm]
theorem mul_ng (a b : Nat) : double.mul (ng a) b = (double.mul a b).map ng := by
  unfold Format.mul
  rw [read_ng, product_opposite]
  cases h : Datum.product (double.read a) (double.read b) with
  | none => rfl
  | some d => simp [write_opposite (product_notN h)]
theorem add_ng (a b : Nat) : double.add a (ng b) = double.sub a b := by
  unfold Format.add Format.sub
  rw [read_ng]
theorem read_one : double.read 4607182418800017408 = .number false (1 * 2 ^ 52) (0 - (52 : Nat)) := by decide
theorem mul_one_some {x : Nat} (hx : x < 18446744073709551616) (hn : isN x = false) : double.mul 4607182418800017408 x = some x := by
  unfold Format.mul
  rw [read_one]
  have hr := read_notnan hn
  have hw := write_read hx hn
  cases h : double.read x with
  | number t m j =>
    rw [h] at hw
    simp only [Datum.product, Option.map_some, Bool.false_bne, Bool.false_xor]
    rw [show 1 * 2 ^ 52 * m = m * 2 ^ 52 by omega, show (0 - ((52 : Nat) : Int) + j) = j - (52 : Nat) by omega]
    show some (double.nearest t (m * 2 ^ 52) (j - (52 : Nat))) = some x
    rw [nearest_scale]
    exact congrArg some hw
  | infinity t =>
    rw [h] at hw
    simp only [Datum.product]
    rw [if_neg (by decide)]
    simpa using hw
  | nan s t => rw [h] at hr; cases hr
theorem ng_one : ng 4607182418800017408 = 13830554455654793216 := by decide
theorem fmul_one {x : Nat} (hx : x < 18446744073709551616) : fmul 4607182418800017408 x = cn x := by
  unfold fmul
  by_cases hn : isN x = true
  · rw [mul_nan_r hn, cn_nan hn]; rfl
  · have hn' : isN x = false := by simpa using hn
    rw [mul_one_some hx hn', cn_of hn']; rfl
theorem fadd_NANB (y : Nat) : fadd y NANB = NANB := by unfold fadd; rw [add_nan_r isN_NANB]; rfl
theorem fsub_NANB (y : Nat) : fsub y NANB = NANB := by unfold fsub; rw [sub_nan_r isN_NANB]; rfl
theorem fmul_NANB_l (y : Nat) : fmul NANB y = NANB := by unfold fmul; rw [mul_nan_l isN_NANB]; rfl
theorem fmul_nan_r {x : Nat} (h : isN x = true) (y : Nat) : fmul y x = NANB := by unfold fmul; rw [mul_nan_r h]; rfl
theorem neg_mul (x : Nat) : double.mul 13830554455654793216 x = (double.mul 4607182418800017408 x).map ng := by
  rw [← ng_one]; exact mul_ng _ _
theorem fmul_neg {x : Nat} (hx : x < 18446744073709551616) (hn : isN x = false) : fmul 13830554455654793216 x = ng x := by
  have h : double.mul 13830554455654793216 x = some (ng x) := (neg_mul x).trans (congrArg (Option.map ng) (mul_one_some hx hn))
  show (double.mul 13830554455654793216 x).getD NANB = ng x
  rw [h, Option.getD_some]
theorem fmul_some {a b p : Nat} (h : double.mul a b = some p) : fmul a b = p := by
  show (double.mul a b).getD NANB = p
  rw [h, Option.getD_some]
theorem fmul_none {a b : Nat} (h : double.mul a b = none) : fmul a b = NANB := by
  show (double.mul a b).getD NANB = NANB
  rw [h, Option.getD_none]
theorem fadd_ng (y p : Nat) : fadd y (ng p) = fsub y p := congrArg (fun o : Option Nat => o.getD NANB) (add_ng y p)
theorem fadd_fmul_ng (y x v : Nat) : fadd y (fmul (ng x) v) = fsub y (fmul x v) := by
  have h1 := mul_ng x v
  cases h : double.mul x v with
  | none =>
    have e1 : fmul (ng x) v = NANB := fmul_none (h1.trans (congrArg (Option.map ng) h))
    exact (congrArg (fadd y) e1).trans ((fadd_NANB y).trans ((fsub_NANB y).symm.trans (congrArg (fsub y) (fmul_none h)).symm))
  | some p =>
    have e1 : fmul (ng x) v = ng p := fmul_some (h1.trans (congrArg (Option.map ng) h))
    exact (congrArg (fadd y) e1).trans ((fadd_ng y p).trans (congrArg (fsub y) (fmul_some h)).symm)
theorem fmul_comm (a b : Nat) : fmul a b = fmul b a := congrArg (fun o : Option Nat => o.getD NANB) (mul_comm a b)
/-- A product with -1 in it, added, is the product taken away. -/
theorem fadd_neg {x : Nat} (hx : x < 18446744073709551616) (y v : Nat) : fadd y (fmul (fmul 13830554455654793216 x) v) = fsub y (fmul v x) := by
  by_cases hn : isN x = true
  · have e1 : fmul (fmul 13830554455654793216 x) v = NANB := (congrArg (fun z => fmul z v) (fmul_nan_r hn 13830554455654793216)).trans (fmul_NANB_l v)
    exact (congrArg (fadd y) e1).trans ((fadd_NANB y).trans ((fsub_NANB y).symm.trans (congrArg (fsub y) (fmul_nan_r hn v)).symm))
  · have hn' : isN x = false := by simpa using hn
    exact (congrArg (fun z => fadd y (fmul z v)) (fmul_neg hx hn')).trans ((fadd_fmul_ng y x v).trans (congrArg (fsub y) (fmul_comm x v)))
end Go.Proofs.Ytapilgbbkbfcbaa
