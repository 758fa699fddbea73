/- Layer 14: whether a system may be solved: what the code computes. -/
import Derived.Test.YtapilgbbkbfcbaaR3
namespace Go.Proofs.Ytapilgbbkbfcbaa
open Go Go.RowKit

/-- A number on the diagonal is a nought. -/
def zeroDiag (M : Nat → Nat → Nat) (N : Nat) : Prop := ∃ k : Nat, k < N ∧ feq (M k k) 0 = true

/-- Which error there is: sizes, places, noughts. -/
def TRes (P1 P2 P3 : Prop) (r : Int) : Prop := (¬ P1 → r = 3) ∧ (P1 → P2 → r = 2) ∧ (P1 → ¬ P2 → (P3 → r = 4) ∧ (¬ P3 → r = 0))

theorem meet_any2 (A : Option Addr) (n c : Nat) (off rows cols ld : Int) (A' : Option Addr) (n' c' : Nat) (off' rows' cols' ld' : Int) (w : World) (hs : (n : Int) ≤ lim) (h1 : I64 off) (h2 : I64 rows) (h3 : I64 cols) (h4 : I64 ld) (hg : goodP n off rows cols ld)
    (hs' : (n' : Int) ≤ lim) (h1' : I64 off') (h2' : I64 rows') (h3' : I64 cols') (h4' : I64 ld') (hg' : goodP n' off' rows' cols' ld')
    (hA : 0 < n → ∃ a, A = some a) (hA' : 0 < n' → ∃ a, A' = some a) (hab : 0 < n → 0 < n' → ∀ a a', A = some a → A' = some a' → a ≠ a' → ApartOK w a a') :
    Calls Try.prog 61 #[.agg #[.slice A n c, .int .i64 off, .int .i64 rows, .int .i64 cols, .int .i64 ld], .agg #[.slice A' n' c', .int .i64 off', .int .i64 rows', .int .i64 cols', .int .i64 ld']] w
      fun e w' => e = .returned (.bool (decide (meetP A off rows cols ld A' off' rows' cols' ld'))) ∧ Below w.heap.size w w' := by
  by_cases h : 0 < n ∧ 0 < n'
  · exact meet_any A n c off rows cols ld A' n' c' off' rows' cols' ld' w hs h1 h2 h3 h4 hg hs' h1' h2' h3' h4' hg' hA hA' (hab h.1 h.2)
  · have hf : ¬ ((0 < rows ∧ 0 < cols) ∧ (0 < rows' ∧ 0 < cols')) := fun ⟨⟨a, b⟩, c, d⟩ => by
      have := last_lt hg a b
      have := last_lt hg' c d
      omega
    rw [decide_eq_false (show ¬ meetP _ _ _ _ _ _ _ _ _ _ from fun hm => hf ⟨hm.1, hm.2.1⟩)]
    by_cases hr : 0 < rows ∧ 0 < cols
    · exact meet_off3 A n c off rows cols ld A' n' c' off' rows' cols' ld' w hs h1 h2 h3 h4 hg hs' h1' h2' h3' h4' hg' hr.1 hr.2 (fun h' => hf ⟨hr, h'⟩)
    · by_cases hr' : 0 < rows' ∧ 0 < cols'
      · exact meet_off2 A n c off rows cols ld A' n' c' off' rows' cols' ld' w hs h1 h2 h3 h4 hg hs' h1' h2' h3' h4' hg' hr hr'.1 hr'.2
      · exact meet_off1 A n c off rows cols ld A' n' c' off' rows' cols' ld' w hs h1 h2 h3 h4 hg hs' h1' h2' h3' h4' hg' hr hr'

set_option maxRecDepth 100000
set_option maxHeartbeats 4000000 in
theorem tcheck_bad (kind size : Int) (A : Option Addr) (nm cm : Nat) (offm R C ld : Int) (A' : Option Addr) (n c : Nat) (off R' C' ldx : Int) (w : World)
    (hs : (nm : Int) ≤ lim) (m1 : I64 offm) (m2 : I64 R) (m3 : I64 C) (m4 : I64 ld) (hs' : (n : Int) ≤ lim) (x1 : I64 off) (x2 : I64 R') (x3 : I64 C') (x4 : I64 ldx)
    (hbad : kind < 1 ∨ 2 < kind ∨ size < 1 ∨ ¬ goodP nm offm R C ld ∨ ¬ goodP n off R' C' ldx) :
    Calls Try.prog 29 #[.int .i64 kind, .int .i64 size, .agg #[.slice A nm cm, .int .i64 offm, .int .i64 R, .int .i64 C, .int .i64 ld], .agg #[.slice A' n c, .int .i64 off, .int .i64 R', .int .i64 C', .int .i64 ldx]] w
      fun e w' => e = .returned (.int .i64 1) ∧ Below w.heap.size w w' := by
  have key : kind < 1 ∨ (¬ kind < 1 ∧ 2 < kind) ∨ (¬ kind < 1 ∧ ¬ 2 < kind ∧ size < 1) ∨ (¬ kind < 1 ∧ ¬ 2 < kind ∧ ¬ size < 1 ∧ ¬ goodP nm offm R C ld) ∨ (¬ kind < 1 ∧ ¬ 2 < kind ∧ ¬ size < 1 ∧ goodP nm offm R C ld ∧ ¬ goodP n off R' C' ldx) := by
    by_cases a1 : kind < 1
    · exact .inl a1
    · by_cases a2 : 2 < kind
      · exact .inr (.inl ⟨a1, a2⟩)
      · by_cases a3 : size < 1
        · exact .inr (.inr (.inl ⟨a1, a2, a3⟩))
        · by_cases a4 : goodP nm offm R C ld
          · refine .inr (.inr (.inr (.inr ⟨a1, a2, a3, a4, ?_⟩)))
            rcases hbad with h | h | h | h | h
            · exact absurd h a1
            · exact absurd h a2
            · exact absurd h a3
            · exact absurd a4 h
            · exact h
          · exact .inr (.inr (.inr (.inl ⟨a1, a2, a3, a4⟩)))
  clear hbad
  rcases key with a1 | ⟨a1, a2⟩ | ⟨a1, a2, a3⟩ | ⟨a1, a2, a3, a4⟩ | ⟨a1, a2, a3, a4, a5⟩
  · go_enter Try.func29, Try.ntmps29
    go_wp2
    go_ret
    exact ⟨rfl, ((Below.refl _ _).alloc (Nat.le_refl _) _).alloc (by simp) _⟩
  · go_enter Try.func29, Try.ntmps29
    go_wp2
    go_ret
    exact ⟨rfl, ((Below.refl _ _).alloc (Nat.le_refl _) _).alloc (by simp) _⟩
  · go_enter Try.func29, Try.ntmps29
    go_wp2
    go_ret
    exact ⟨rfl, ((Below.refl _ _).alloc (Nat.le_refl _) _).alloc (by simp) _⟩
  · have HD := Lib.hid (decide_eq_false a4)
    clear a4
    go_enter Try.func29, Try.ntmps29
    go_wp2_with fail
    refine (good_calls _ _ _ _ _ _ _ _ hs m1 m2 m3 m4).mono ?_
    rintro e w1 ⟨rfl, hb1⟩
    rw [HD.out]
    go_wp2
    go_ret
    exact ⟨rfl, (((Below.refl _ _).alloc (Nat.le_refl _) _).alloc (by simp) _).trans (hb1.mono (by simp; omega))⟩
  · have HD := Lib.hid (decide_eq_true a4)
    have HD' := Lib.hid (decide_eq_false a5)
    clear a4 a5
    go_enter Try.func29, Try.ntmps29
    go_wp2_with fail
    refine gen_call (fun W hW => ?_)
    have hB : BL w W := by rw [hW]; exact ((Below.refl _ _).alloc (Nat.le_refl _) _).alloc (by simp) _
    have hbx : W.heap[w.heap.size + 1]? = some (.cells #[.slice A' n c, .int .i64 off, .int .i64 R', .int .i64 C', .int .i64 ldx] 24 (0, 0)) := by
      rw [hW]; have := fun w2 : World => fun h : w2.heap.size = w.heap.size + 1 => h ▸ new_row w2 (.cells #[.slice A' n c, .int .i64 off, .int .i64 R', .int .i64 C', .int .i64 ldx] 24); exact this _ (by simp)
    clear hW
    refine (good_calls _ _ _ _ _ _ _ _ hs m1 m2 m3 m4).mono ?_
    rintro e w1 ⟨rfl, hb1⟩
    rw [HD.out]
    have k1 := cells_of ((show BL W w1 from hb1).row hbx)
    go_wp2_with fail
    refine (good_calls _ _ _ _ _ _ _ _ hs' x1 x2 x3 x4).mono ?_
    rintro e w2 ⟨rfl, hb2⟩
    rw [HD'.out]
    go_wp2
    go_ret
    exact ⟨rfl, BL.call hB (BL.call hb1 hb2)⟩

set_option maxHeartbeats 4000000 in
theorem tcheck_good (kind size : Int) (A : Option Addr) (nm cm : Nat) (offm R C ld : Int) (A' : Option Addr) (n c : Nat) (off R' C' ldx : Int) (w : World) (M : Nat → Nat → Nat)
    (hs : (nm : Int) ≤ lim) (m1 : I64 offm) (m2 : I64 R) (m3 : I64 C) (m4 : I64 ld) (hs' : (n : Int) ≤ lim) (x1 : I64 off) (x2 : I64 R') (x3 : I64 C') (x4 : I64 ldx)
    (hk : kind = 1 ∨ kind = 2) (hz : 1 ≤ size) (hg : goodP nm offm R C ld) (hg' : goodP n off R' C' ldx)
    (hA : 0 < nm → ∃ a, A = some a) (hA' : 0 < n → ∃ a, A' = some a) (hab : 0 < n → 0 < nm → ∀ a a', A' = some a → A = some a' → a ≠ a' → ApartOK w a a')
    (hM : 0 < R → 0 < C → ∃ bm om, A = some ⟨bm, om, none⟩ ∧ MAt w bm om offm ld R.toNat C.toNat M) (r : Int) (hr : TRes (R = C ∧ R' = R) (meetP A' off R' C' ldx A offm R C ld) (kind = 2 ∧ zeroDiag M R.toNat) r) :
    Calls Try.prog 29 #[.int .i64 kind, .int .i64 size, .agg #[.slice A nm cm, .int .i64 offm, .int .i64 R, .int .i64 C, .int .i64 ld], .agg #[.slice A' n c, .int .i64 off, .int .i64 R', .int .i64 C', .int .i64 ldx]] w
      fun e w' => e = .returned (.int .i64 r) ∧ Below w.heap.size w w' := by
  have HT := Lib.hid hr
  clear hr
  have HD := Lib.hid (decide_eq_true hg)
  have HD' := Lib.hid (decide_eq_true hg')
  have HG := Lib.hid hg
  have HG' := Lib.hid hg'
  have HM := Lib.hid hM
  have hR0 := hg.1
  have hR9 : R ≤ 9223372036854775807 := m2.2
  clear hg hg' hM
  go_enter Try.func29, Try.ntmps29
  have kk : ¬ kind < 1 ∧ ¬ 2 < kind := by omega
  obtain ⟨kk1, kk2⟩ := kk
  have kk3 : ¬ size < 1 := by omega
  go_wp2_with fail
  refine gen_call (fun W hW => ?_)
  have hB : BL w W := by rw [hW]; exact ((Below.refl _ _).alloc (Nat.le_refl _) _).alloc (by simp) _
  have hbm : W.heap[w.heap.size]? = some (.cells #[.slice A nm cm, .int .i64 offm, .int .i64 R, .int .i64 C, .int .i64 ld] 24 (0, 0)) := by
    rw [hW]; rw [Below.heap_alloc _ _ _ (by first | (simp; done) | (simp; omega))]; exact new_row _ _
  have hbx : W.heap[w.heap.size + 1]? = some (.cells #[.slice A' n c, .int .i64 off, .int .i64 R', .int .i64 C', .int .i64 ldx] 24 (0, 0)) := by
    rw [hW]; have := fun w2 : World => fun h : w2.heap.size = w.heap.size + 1 => h ▸ new_row w2 (.cells #[.slice A' n c, .int .i64 off, .int .i64 R', .int .i64 C', .int .i64 ldx] 24); exact this _ (by simp)
  clear hW
  refine (good_calls _ _ _ _ _ _ _ _ hs m1 m2 m3 m4).mono ?_
  rintro e w1 ⟨rfl, hb1⟩
  rw [HD.out]
  have k1 := cells_of ((show BL W w1 from hb1).row hbx)
  go_wp2_with fail
  refine (good_calls _ _ _ _ _ _ _ _ hs' x1 x2 x3 x4).mono ?_
  rintro e w2 ⟨rfl, hb2⟩
  rw [HD'.out]
  clear k1
  have hB2 : BL W w2 := BL.call hb1 hb2
  have k1 := cells_of (hB2.row hbm)
  have k2 := cells_of (hB2.row hbx)
  have hsz : w.heap.size + 1 < w2.heap.size := (Array.getElem?_eq_some_iff.1 (hB2.row hbx)).1
  have hsz0 : w.heap.size < w2.heap.size := by omega
  by_cases c1 : R = C
  · by_cases c2 : R' = R
    · have c2' := c2.symm
      clear c2
      subst c1 c2'
      have HT2 := Lib.hid (fun h => HT.out.2.1 ⟨rfl, rfl⟩ h)
      have HT4 := Lib.hid (fun h3 hk2 hz2 => (HT.out.2.2 ⟨rfl, rfl⟩ h3).1 ⟨hk2, hz2⟩)
      have HT0 := Lib.hid (fun h3 hn => (HT.out.2.2 ⟨rfl, rfl⟩ h3).2 hn)
      clear HT
      have e1 : (R != R) = false := by simp
      go_wp2_with fail
      refine (meet_any2 _ _ _ _ _ _ _ _ _ _ _ _ _ _ w2 hs' x1 x2 x3 x4 HG'.out hs m1 m2 m3 m4 HG.out hA' hA (fun l1 l2 a a' ha ha' hne => ApartOK.later (BL.call hB hB2) (hab l1 l2 a a' ha ha' hne))).mono ?_
      rintro e w3 ⟨rfl, hb3⟩
      have hB3 : BL W w3 := hB2.call hb3
      have k3 := cells_of (hB3.row hbm)
      have hsz3 : w.heap.size < w3.heap.size := by have := hb3.size; omega
      by_cases c3 : meetP A' off R C' ldx A offm R R ld
      · rw [decide_eq_true c3]
        have HC3 := Lib.hid c3
        clear c3
        have hr := HT2.out HC3.out
        go_wp2
        go_ret
        exact ⟨by first | trivial | (rw [hr]; first | trivial | rfl), BL.call hB hB3⟩
      · rw [decide_eq_false c3]
        have HC3 := Lib.hid c3
        clear c3
        go_wp2
        go_loopw [50] (fun jv wr => ∃ k : Nat, (k : Int) ≤ R ∧ jv = .int .i64 k ∧ BL W wr ∧ (kind = 2 → ∀ t : Nat, t < k → feq (M t t) 0 = false)) (fun jv _ => (R - intOf jv).toNat)
        case atStart => exact ⟨0, hR0, rfl, hB3, fun _ t ht => absurd ht (by omega)⟩
        case round =>
          obtain ⟨k, hk1, rfl, hwr, hz1⟩ := hrel
          by_cases hlt : (k : Int) < R
          · have kb := cells_of (hwr.row hbm)
            have hltc : (k : Int) < R := hlt
            obtain ⟨bm, om, rfl, hM⟩ := HM.out (by omega) (by omega)
            obtain ⟨v, hv, hcv, hxv⟩ := hM k k (by omega) (by omega)
            have hcv1 := hwr.cell (hB.cell hcv)
            rcases hk with rfl | rfl
            · go_wp2
              go_roundw
              case rel => exact ⟨k + 1, by omega, by go_num, hwr, fun h => absurd h (by decide)⟩
              case measure => first | (simp [intOf]; done) | (simp [intOf]; omega)
            · by_cases hv0 : feq v 0 = true
              · have hv2 : (FloatKind.f64.format.order v 0 == some Ordering.eq) = true := hv0
                have hz2 : zeroDiag M R.toNat := ⟨k, by omega, by rw [← hxv, show (0 : Nat) = cn 0 by decide, feq_cn]; exact hv0⟩
                have hr : r = 4 := by first | exact HT4.out HC3.out rfl hz2 | exact HT4.out HC3.out hz2
                clear hz2 hv0
                have HZ1 := Lib.hid hz1
                clear hz1
                go_wp2_with (go_at_call 48; refine (at_in _ _ _ _ _ _ _ _ _ _ _ _ hs m1 m2 m3 m4 HG.out (by omega) hlt (by omega) hltc hcv1).mono ?_; rintro e w4 ⟨rfl, hb4⟩)
                go_ret
                exact ⟨by first | trivial | (rw [hr]; first | trivial | rfl), BL.call hB (hwr.call hb4)⟩
              · have hv1 : feq v 0 = false := by simpa using hv0
                have hv2 : (FloatKind.f64.format.order v 0 == some Ordering.eq) = false := hv1
                have HZ1 := Lib.hid hz1
                clear hz1 hv0
                go_wp2_with (go_at_call 48; refine (at_in _ _ _ _ _ _ _ _ _ _ _ _ hs m1 m2 m3 m4 HG.out (by omega) hlt (by omega) hltc hcv1).mono ?_; rintro e w4 ⟨rfl, hb4⟩)
                go_roundw
                case rel =>
                  refine ⟨k + 1, by omega, by go_num, hwr.call hb4, fun h t ht => ?_⟩
                  by_cases htk : t = k
                  · subst htk; rw [← hxv, show (0 : Nat) = cn 0 by decide, feq_cn]; exact hv1
                  · exact HZ1.out h t (by omega)
                case measure => first | (simp [intOf]; done) | (simp [intOf]; omega)
          · have HZ1 := Lib.hid hz1
            clear hz1
            have hr := HT0.out HC3.out (fun ⟨h1, t, ht, h2⟩ => by rw [HZ1.out h1 t (by omega)] at h2; cases h2)
            go_wp2
            go_ret
            exact ⟨by first | trivial | (rw [hr]; first | trivial | rfl), BL.call hB hwr⟩
    · have e1 : (R != C) = false := by simp [c1]
      have e2 : (R' != R) = true := by simp [c2]
      have hr := HT.out.1 (fun h => c2 h.2)
      go_wp2
      go_ret
      exact ⟨by first | trivial | (rw [hr]; first | trivial | rfl), BL.call hB hB2⟩
  · have e1 : (R != C) = true := by simp [c1]
    have hr := HT.out.1 (fun h => c1 h.1)
    go_wp2
    go_ret
    exact ⟨by first | trivial | (rw [hr]; first | trivial | rfl), BL.call hB hB2⟩
end Go.Proofs.Ytapilgbbkbfcbaa
