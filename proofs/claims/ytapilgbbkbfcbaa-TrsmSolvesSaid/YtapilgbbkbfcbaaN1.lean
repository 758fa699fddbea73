/- Rounding, plainly: what a word stands for is written as that word; scaling by a power of 2 in mind. No program here. -/
import Derived.Test.YtapilgbbkbfcbaaFlt
namespace Go.Proofs.Ytapilgbbkbfcbaa
open Ieee

theorem log2_scale {m : Nat} (hm : m ≠ 0) (k : Nat) : (m * 2 ^ k).log2 = m.log2 + k := by
  have hp : 0 < 2 ^ k := Nat.two_pow_pos k
  have hne : m * 2 ^ k ≠ 0 := Nat.mul_ne_zero hm (by omega)
  refine (Nat.log2_eq_iff hne).2 ⟨?_, ?_⟩
  · rw [Nat.pow_add]; exact Nat.mul_le_mul_right _ (Nat.log2_self_le hm)
  · rw [show m.log2 + k + 1 = (m.log2 + 1) + k by omega, Nat.pow_add]
    exact Nat.mul_lt_mul_of_pos_right Nat.lt_log2_self hp

/-- Nothing is dropped. -/
theorem cut_none (s : Bool) (n : Nat) : Toward.even.cut s n 0 = n := by
  simp [Toward.cut, Nat.mod_one]
theorem cut_exact (s : Bool) (m d e : Nat) (h : d ≤ e) (hm : m ≠ 0) : Toward.even.cut s (m * 2 ^ e) d = m * 2 ^ (e - d) := by
  have h1 : min d ((m * 2 ^ e).log2 + 2) = d := by rw [log2_scale hm]; omega
  have h2 : m * 2 ^ e = m * 2 ^ (e - d) * 2 ^ d := by rw [Nat.mul_assoc, ← Nat.pow_add, Nat.sub_add_cancel h]
  have hp : 0 < 2 ^ d := Nat.two_pow_pos d
  unfold Toward.cut
  simp only [h1, Nat.shiftLeft_eq, Nat.one_mul]
  rw [h2, Nat.mul_mod_left, Nat.mul_div_cancel _ hp]
  simp
theorem cut_scale (s : Bool) (m d k : Nat) (hm : m ≠ 0) : Toward.even.cut s (m * 2 ^ k) (d + k) = Toward.even.cut s m d := by
  have hp : 0 < 2 ^ k := Nat.two_pow_pos k
  have h1 : min (d + k) ((m * 2 ^ k).log2 + 2) = min d (m.log2 + 2) + k := by rw [log2_scale hm]; omega
  unfold Toward.cut
  simp only [h1, Nat.shiftLeft_eq, Nat.one_mul]
  rw [Nat.pow_add, Nat.mul_div_mul_right _ _ hp, Nat.mul_mod_mul_right]
  generalize hg : 2 ^ min d (m.log2 + 2) = g
  have e1 : (decide (g * 2 ^ k < 2 * (m % g * 2 ^ k))) = decide (g < 2 * (m % g)) := by
    rw [← Nat.mul_assoc]; exact decide_eq_decide.2 (Nat.mul_lt_mul_right hp)
  have e2 : (g * 2 ^ k == 2 * (m % g * 2 ^ k)) = (g == 2 * (m % g)) := by
    rw [← Nat.mul_assoc, Bool.eq_iff_iff]
    simp only [beq_iff_eq]
    exact ⟨fun h => Nat.eq_of_mul_eq_mul_right hp h, fun h => congrArg (· * 2 ^ k) h⟩
  rw [e1, e2]
theorem nearest_scale (s : Bool) (m k : Nat) (p : Int) : double.nearest s (m * 2 ^ k) (p - k) = double.nearest s m p := by
  by_cases hm : m = 0
  · subst hm; simp [Format.nearest]
  · have hp : 0 < 2 ^ k := Nat.two_pow_pos k
    have hne : m * 2 ^ k ≠ 0 := Nat.mul_ne_zero hm (by omega)
    unfold Format.nearest
    rw [if_neg hm, if_neg hne]
    have hl : p - (k : Int) + ((m * 2 ^ k).log2 : Nat) = p + (m.log2 : Nat) := by rw [log2_scale hm]; omega
    simp only [hl]
    generalize max (p + ((m.log2 : Nat) : Int) - (double.fractionBits : Nat)) double.leastPlace = last
    congr 2
    congr 1
    by_cases h1 : last ≤ p
    · have e1 : (last - p).toNat = 0 := by omega
      rw [e1, cut_none]
      by_cases h2 : last ≤ p - k
      · have e2 : (last - (p - k)).toNat = 0 := by omega
        rw [e2, cut_none, Nat.shiftLeft_eq, Nat.shiftLeft_eq, Nat.mul_assoc, ← Nat.pow_add]
        congr 2
        omega
      · have e2 : (p - k - last).toNat = 0 := by omega
        rw [e2, Nat.shiftLeft_zero, cut_exact s m _ k (by omega) hm, Nat.shiftLeft_eq]
        congr 2
        omega
    · have e1 : (p - last).toNat = 0 := by omega
      have e2 : (p - k - last).toNat = 0 := by omega
      rw [e1, e2, Nat.shiftLeft_zero, Nat.shiftLeft_zero, show (last - (p - k)).toNat = (last - p).toNat + k by omega]
      exact cut_scale s m _ k hm
/-- What a word stands for is written as that word. -/
theorem write_read {x : Nat} (h : x < 18446744073709551616) (hn : isN x = false) : double.write (double.read x) = x := by
  have hn' : x % 9223372036854775808 ≤ 9218868437227405312 := by
    unfold isN at hn; simpa using hn
  have hw : double.word (x / 9223372036854775808 % 2 == 1) (x % 9223372036854775808) = x := by
    unfold Format.word
    rw [d_sw]
    have : x / 9223372036854775808 = 0 ∨ x / 9223372036854775808 = 1 := by omega
    rcases this with h0 | h0 <;> rw [h0] <;> simp <;> omega
  unfold Format.read
  simp only [d_sw, d_bw, d_iw, d_lp]
  generalize (x / 9223372036854775808 % 2 == 1) = s at hw ⊢
  generalize x % 9223372036854775808 = r at hw hn' ⊢
  subst hw
  by_cases h1 : r < 4503599627370496
  · rw [if_pos h1]
    unfold Format.write Format.nearest
    by_cases h0 : r = 0
    · subst h0; rfl
    · simp only [if_neg h0, d_lp, d_fb, d_bw, d_iw]
      have hl : r.log2 < 52 := (Nat.log2_lt h0).2 h1
      have hm : max (-1074 + ((r.log2 : Nat) : Int) - ((52 : Nat) : Int)) (-1074) = -1074 := by omega
      rw [hm]
      simp only [Int.sub_self, Int.toNat_zero, Nat.shiftLeft_zero, Nat.zero_mul, Nat.zero_add]
      rw [cut_none, Nat.min_eq_left (by omega)]
  · rw [if_neg h1]
    by_cases h2 : r < 9218868437227405312
    · rw [if_pos h2]
      unfold Format.write Format.nearest
      have hne : 4503599627370496 + r % 4503599627370496 ≠ 0 := by omega
      simp only [if_neg hne, d_lp, d_fb, d_bw, d_iw]
      have hl : (4503599627370496 + r % 4503599627370496).log2 = 52 := (Nat.log2_eq_iff hne).2 (by omega)
      rw [hl]
      have hm : max (-1074 + ((r / 4503599627370496 - 1 : Nat) : Int) + ((52 : Nat) : Int) - ((52 : Nat) : Int)) (-1074) = -1074 + ((r / 4503599627370496 - 1 : Nat) : Int) := by omega
      rw [hm]
      simp only [Int.sub_self, Int.toNat_zero, Nat.shiftLeft_zero]
      rw [cut_none]
      congr 1
      have : (-1074 + ((r / 4503599627370496 - 1 : Nat) : Int) - -1074).toNat = r / 4503599627370496 - 1 := by omega
      rw [this, Nat.min_eq_left]
      · omega
      · omega
    · have h3 : r = 9218868437227405312 := by omega
      subst h3
      rw [if_neg h2, if_pos rfl]
      rfl
end Go.Proofs.Ytapilgbbkbfcbaa
