/- References 01 and 03: small functions: what they compute. -/
import Derived.Test.YtapilgbbkbfcbaaM1
import Derived.Outline
import Derived.Laws.Externs
namespace Go.Proofs.Ytapilgbbkbfcbaa
open Go Go.RowKit

/-- Is there more of a matrix than is looked at. -/
def greatB (n rows cols : Int) : Bool := decide (1000 < n ∨ 20 < rows ∨ 20 < cols)
set_option maxRecDepth 100000
set_option maxHeartbeats 1000000 in
theorem great_calls (A : Option Addr) (n c : Nat) (off rows cols ld : Int) (w : World) (g : Bool) (hg : g = greatB n rows cols) :
    Calls Try.prog 8 #[.agg #[.slice A n c, .int .i64 off, .int .i64 rows, .int .i64 cols, .int .i64 ld]] w
      fun e w' => e = .returned (.bool g) ∧ Below w.heap.size w w' := by
  by_cases h1 : (1000 : Int) < n
  · have e1 : g = true := by rw [hg]; exact decide_eq_true (.inl h1)
    subst e1
    clear hg
    go_enter Try.func8, Try.ntmps8
    go_wp2
    go_ret
    exact ⟨rfl, (Below.refl _ _).alloc (Nat.le_refl _) _⟩
  · by_cases h2 : 20 < rows
    · have e1 : g = true := by rw [hg]; exact decide_eq_true (.inr (.inl h2))
      subst e1
      clear hg
      go_enter Try.func8, Try.ntmps8
      go_wp2
      go_ret
      exact ⟨rfl, (Below.refl _ _).alloc (Nat.le_refl _) _⟩
    · have e1 : g = decide (20 < cols) := by rw [hg]; exact decide_eq_decide.2 (by omega)
      subst e1
      clear hg
      go_enter Try.func8, Try.ntmps8
      go_wp2
      go_ret
      exact ⟨rfl, (Below.refl _ _).alloc (Nat.le_refl _) _⟩

theorem bits_run (b : Nat) (w : World) : (callFunc 54 #[.float .f64 b]).run Try.prog w = .ok (.value (.int .u64 b)) w := by
  rw [run_callFunc_extern Try.func54 rfl rfl rfl rfl]; rfl
/-- Which kind a number is of: 0 finite, 1 infinite, 2 NaN. -/
def kindN (x : Nat) : Int := if x % 9223372036854775808 = 9218868437227405312 then 1 else if isN x then 2 else 0
theorem kind_inf {x : Nat} (h1 : (x : Int) / 4503599627370496 % 2048 = 2047) (h2 : ((x : Int) % 4503599627370496 == 0) = true) : kindN x = 1 := by
  rw [beq_iff_eq] at h2
  unfold kindN; rw [if_pos (by omega)]
theorem kind_nan {x : Nat} (h1 : (x : Int) / 4503599627370496 % 2048 = 2047) (h2 : ((x : Int) % 4503599627370496 == 0) = false) : kindN x = 2 := by
  rw [beq_eq_false_iff_ne] at h2
  unfold kindN isN; rw [if_neg (by omega), if_pos (by rw [decide_eq_true_eq]; omega)]
theorem kind_fin {x : Nat} (h1 : ¬ (x : Int) / 4503599627370496 % 2048 = 2047) : kindN x = 0 := by
  unfold kindN isN; rw [if_neg (by omega), if_neg (by rw [decide_eq_true_eq]; omega)]
/-- The parts' kind. -/
def KindOf (k : Int) (v : Value) : Prop := ∃ a b c, v = .tuple #[.bool a, .int .u64 b, .int .i64 c, .int .i64 k]
set_option maxHeartbeats 1000000 in
theorem parts_calls (x : Nat) (w : World) (hx : x < 18446744073709551616) :
    Calls Try.prog 53 #[.float .f64 x] w
      fun e w' => (∃ v, e = .returned v ∧ KindOf (kindN x) v) ∧ w' = w := by
  have hfb := bits_run
  have x0 : (0 : Int) ≤ x := by omega
  have x1 : (x : Int) ≤ 18446744073709551615 := by omega
  obtain ⟨k, hk⟩ : ∃ k, k = kindN x := ⟨_, rfl⟩
  rw [← hk]
  have HK := Lib.hid hk
  clear hk
  go_enter Try.func53, Try.ntmps53
  go_wp2
  · have e : k = 1 := by rw [HK.out]; exact kind_inf (by assumption) (by assumption)
    refine bodyPost_ret (by simp [results, Try.results53, go_sem]; rfl) rfl ?_
    exact ⟨⟨_, rfl, _, _, _, by rw [e]⟩, rfl⟩
  · have e : k = 2 := by rw [HK.out]; exact kind_nan (by assumption) (by assumption)
    refine bodyPost_ret (by simp [results, Try.results53, go_sem]; rfl) rfl ?_
    exact ⟨⟨_, rfl, _, _, _, by rw [e]⟩, rfl⟩
  · have e : k = 0 := by rw [HK.out]; exact kind_fin (by assumption)
    refine bodyPost_ret (by simp [results, Try.results53, go_sem]; rfl) rfl ?_
    exact ⟨⟨_, rfl, _, _, _, by rw [e]⟩, rfl⟩
  · have e : k = 0 := by rw [HK.out]; exact kind_fin (by assumption)
    refine bodyPost_ret (by simp [results, Try.results53, go_sem]; rfl) rfl ?_
    exact ⟨⟨_, rfl, _, _, _, by rw [e]⟩, rfl⟩
/-- Are numbers the same, NaNs as one. -/
def sameB (x y : Nat) : Bool := decide (cn x = cn y)
theorem same_eq {x y : Nat} (h : x = y) : sameB x y = true := by subst h; exact decide_eq_true rfl
theorem kind2 {x : Nat} : kindN x = 2 ↔ isN x = true := by
  unfold kindN
  by_cases h : x % 9223372036854775808 = 9218868437227405312
  · rw [if_pos h]; unfold isN; rw [decide_eq_true_eq]; omega
  · rw [if_neg h]; by_cases h2 : isN x = true
    · rw [if_pos h2]; simp [h2]
    · rw [if_neg h2]; simp [h2]
theorem same_nan {x y : Nat} (hx : kindN x = 2) (hy : kindN y = 2) : sameB x y = true := decide_eq_true ((cn_nan (kind2.1 hx)).trans (cn_nan (kind2.1 hy)).symm)
theorem isN_NB : isN NANB = true := by decide
theorem same_ne {x y : Nat} (h : x ≠ y) (hk : kindN x ≠ 2 ∨ kindN y ≠ 2) : sameB x y = false := decide_eq_false (fun e => by
  have nx := isN_cn x
  have ny := isN_cn y
  rw [e] at nx
  have exy : isN x = isN y := nx.symm.trans ny
  by_cases hn : isN x = true
  · rcases hk with hk | hk
    · exact hk (kind2.2 hn)
    · exact hk (kind2.2 (exy ▸ hn))
  · have hn' : isN x = false := by simpa using hn
    rw [cn_of hn', cn_of (exy ▸ hn')] at e
    exact h e)
set_option maxHeartbeats 2000000 in
theorem same_calls (x y : Nat) (w : World) (hx : x < 18446744073709551616) (hy : y < 18446744073709551616) :
    Calls Try.prog 24 #[.float .f64 x, .float .f64 y] w
      fun e w' => e = .returned (.bool (sameB x y)) ∧ w' = w := by
  obtain ⟨k, hk⟩ : ∃ k, k = kindN x := ⟨_, rfl⟩
  obtain ⟨l, hl⟩ : ∃ k, k = kindN y := ⟨_, rfl⟩
  obtain ⟨r, hr⟩ : ∃ r, r = sameB x y := ⟨_, rfl⟩
  rw [← hr]
  have HK := Lib.hid (And.intro hk (And.intro hl hr))
  have hpx := parts_calls x
  have hpy := parts_calls y
  rw [← hk] at hpx
  rw [← hl] at hpy
  clear hk hl hr
  by_cases hxy : x = y
  · have hr1 : r = true := by rw [HK.out.2.2]; exact same_eq hxy
    have exy : ((x : Int) == (y : Int)) = true := by rw [hxy]; simp
    clear hxy HK
    have hfb := bits_run
    go_enter Try.func24, Try.ntmps24
    go_wp2_with fail
    refine (hpx _ hx).mono ?_
    rintro e w1 ⟨⟨v, rfl, a, b, c, rfl⟩, rfl⟩
    go_wp2_with fail
    refine (hpy _ hy).mono ?_
    rintro e w1 ⟨⟨v, rfl, a, b, c, rfl⟩, rfl⟩
    clear hpx hpy
    go_wp2
    go_ret
    exact ⟨by rw [hr1]; rfl, rfl⟩
  · have exy : ((x : Int) == (y : Int)) = false := by rw [beq_eq_false_iff_ne]; omega
    by_cases hk2 : k = 2
    · by_cases hl2 : l = 2
      · have hr1 : r = true := by rw [HK.out.2.2]; exact same_nan (HK.out.1.symm.trans hk2) (HK.out.2.1.symm.trans hl2)
        subst hk2 hl2
        clear HK hxy
        have hfb := bits_run
        go_enter Try.func24, Try.ntmps24
        go_wp2_with fail
        refine (hpx _ hx).mono ?_
        rintro e w1 ⟨⟨v, rfl, a, b, c, rfl⟩, rfl⟩
        go_wp2_with fail
        refine (hpy _ hy).mono ?_
        rintro e w1 ⟨⟨v, rfl, a, b, c, rfl⟩, rfl⟩
        clear hpx hpy
        go_wp2
        go_ret
        exact ⟨by rw [hr1]; rfl, rfl⟩
      · have hr1 : r = false := by rw [HK.out.2.2]; exact same_ne hxy (.inr (by rw [← HK.out.2.1]; exact hl2))
        have e2 : (l == 2) = false := by rw [beq_eq_false_iff_ne]; exact hl2
        subst hk2
        clear HK hxy hl2
        have hfb := bits_run
        go_enter Try.func24, Try.ntmps24
        go_wp2_with fail
        refine (hpx _ hx).mono ?_
        rintro e w1 ⟨⟨v, rfl, a, b, c, rfl⟩, rfl⟩
        go_wp2_with fail
        refine (hpy _ hy).mono ?_
        rintro e w1 ⟨⟨v, rfl, a, b, c, rfl⟩, rfl⟩
        clear hpx hpy
        go_wp2
        go_ret
        exact ⟨by rw [hr1]; rfl, rfl⟩
    · have hr1 : r = false := by rw [HK.out.2.2]; exact same_ne hxy (.inl (by rw [← HK.out.1]; exact hk2))
      have e2 : (k == 2) = false := by rw [beq_eq_false_iff_ne]; exact hk2
      clear HK hxy hk2
      have hfb := bits_run
      go_enter Try.func24, Try.ntmps24
      go_wp2_with fail
      refine (hpx _ hx).mono ?_
      rintro e w1 ⟨⟨v, rfl, a, b, c, rfl⟩, rfl⟩
      go_wp2_with fail
      refine (hpy _ hy).mono ?_
      rintro e w1 ⟨⟨v, rfl, a, b, c, rfl⟩, rfl⟩
      clear hpx hpy
      go_wp2
      go_ret
      exact ⟨by rw [hr1]; rfl, rfl⟩
end Go.Proofs.Ytapilgbbkbfcbaa
