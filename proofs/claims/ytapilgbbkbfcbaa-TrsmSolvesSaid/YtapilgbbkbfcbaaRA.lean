/- Layer 14: what solving leaves, over lists. -/
import Derived.Test.YtapilgbbkbfcbaaR9
import Derived.Test.YtapilgbbkbfcbaaL3
namespace Go.Proofs.Ytapilgbbkbfcbaa
open Go Go.RowKit

/-- The table in a list. -/
def tab (off ld : Int) (F : Nat → Nat) : Nat → Nat → Nat := fun i j => F (off + (i : Int) + (j : Int) * ld).toNat
/-- A list into which a table is written. -/
def intoN (off ld : Int) (R C : Nat) (Y : Nat → Nat → Nat) (F : Nat → Nat) : Nat → Nat :=
  fun p => if off.toNat ≤ p ∧ (p - off.toNat) % ld.toNat < R ∧ (p - off.toNat) / ld.toNat < C then Y ((p - off.toNat) % ld.toNat) ((p - off.toNat) / ld.toNat) else F p
/-- A list's places. -/
def LS (o n : Nat) (p : Nat) : Prop := ∃ i, i < n ∧ p = o + i
theorem tab_place {n off R C ld : Int} {i j : Nat} (hg : goodP n off R C ld) (hi : (i : Int) < R) (hj : (j : Int) < C) : ∃ p : Nat, (p : Int) = off + i + j * ld ∧ (p : Int) < n ∧ (off + (i : Int) + (j : Int) * ld).toNat = p := by
  obtain ⟨h1, h2, h3, h4⟩ := good_at (i := i) (j := j) hg (by omega) hi (by omega) hj
  exact ⟨(off + (i : Int) + (j : Int) * ld).toNat, by omega, by omega, rfl⟩
theorem MAt.of_list {w : World} {b o n : Nat} {F : Nat → Nat} {off ld : Int} {R C : Nat} (h : XAt w b o 0 1 n F) (hg : goodP n off R C ld) : MAt w b o off ld R C (tab off ld F) := by
  intro i j hi hj
  obtain ⟨p, h1, h2, h3⟩ := tab_place (i := i) (j := j) hg (by omega) (by omega)
  obtain ⟨v, hv, hc, hx⟩ := h.one (i := p) (by omega)
  exact ⟨v, hv, by rw [h3]; exact hc, by unfold tab; rw [h3]; exact hx⟩
theorem MS.list {o n : Nat} {off ld : Int} {R C : Nat} (hg : goodP n off R C ld) {p : Nat} (h : MS o off ld R C p) : LS o n p := by
  obtain ⟨i, j, hi, hj, e⟩ := h
  obtain ⟨q, h1, h2, h3⟩ := tab_place (i := i) (j := j) hg (by omega) (by omega)
  exact ⟨q, by omega, by rw [e, h3]⟩
theorem place_div {off ld : Int} {R i j p : Nat} (ho : 0 ≤ off) (hR : (R : Int) ≤ ld) (hi : i < R) (hp : (p : Int) = off + i + j * ld) : off.toNat ≤ p ∧ (p - off.toNat) % ld.toNat = i ∧ (p - off.toNat) / ld.toNat = j := by
  obtain ⟨l, rfl⟩ : ∃ l : Nat, ld = l := ⟨ld.toNat, by omega⟩
  obtain ⟨q, rfl⟩ : ∃ q : Nat, off = q := ⟨off.toNat, by omega⟩
  have hl : 0 < l := by omega
  rw [← Int.natCast_mul] at hp
  have e : p - q = i + j * l := by omega
  refine ⟨by simp; omega, ?_, ?_⟩
  · rw [Int.toNat_natCast, Int.toNat_natCast, e, Nat.add_mul_mod_self_right, Nat.mod_eq_of_lt (by omega)]
  · rw [Int.toNat_natCast, Int.toNat_natCast, e, Nat.add_mul_div_right _ _ hl, Nat.div_eq_of_lt (by omega), Nat.zero_add]
theorem XAt.of_mat {w w' : World} {b o n : Nat} {F : Nat → Nat} {off ld : Int} {R C : Nat} {Y : Nat → Nat → Nat} (h : XAt w b o 0 1 n F) (hw : WrB w w' b (MS o off ld R C)) (hM : MAt w' b o off ld R C Y) (hg : goodP n off R C ld) : XAt w' b o 0 1 n (intoN off ld R C Y F) := by
  have ho := hg.2.2.1
  have hl := hg.2.2.2.1
  have hR := hg.2.2.2.2.1
  refine XAt.of_one fun p hp => ?_
  unfold intoN
  by_cases hc : off.toNat ≤ p ∧ (p - off.toNat) % ld.toNat < R ∧ (p - off.toNat) / ld.toNat < C
  · rw [if_pos hc]
    obtain ⟨v, hv, hcell, hx⟩ := hM _ _ hc.2.1 hc.2.2
    refine ⟨v, hv, ?_, hx⟩
    obtain ⟨l, rfl⟩ : ∃ l : Nat, ld = l := ⟨ld.toNat, by omega⟩
    obtain ⟨q, rfl⟩ : ∃ q : Nat, off = q := ⟨off.toNat, by omega⟩
    simp only [Int.toNat_natCast] at hcell hc
    have e := Nat.mod_add_div (p - q) l
    rw [Nat.mul_comm] at e
    rw [← Int.natCast_mul, ← Int.natCast_add, ← Int.natCast_add, Int.toNat_natCast, show q + (p - q) % l + (p - q) / l * l = p by omega] at hcell
    exact hcell
  · rw [if_neg hc]
    obtain ⟨v, hv, hcell, hx⟩ := h.one hp
    refine ⟨v, hv, hw.cell hcell (.inr ?_), hx⟩
    rintro ⟨i, j, hi, hj, e⟩
    obtain ⟨q, h1, h2, h3⟩ := tab_place (i := i) (j := j) hg (by omega) (by omega)
    obtain rfl : p = q := by omega
    obtain ⟨d1, d2, d3⟩ := place_div ho hR hi h1
    exact hc ⟨d1, by omega, by omega⟩

open Classical in
/-- What solving tells. -/
noncomputable def tcode (kind size : Int) (nm : Nat) (offm R C ld : Int) (n : Nat) (off R' C' ldx : Int) (meet : Prop) (Fm : Nat → Nat) : Int :=
  if kind < 1 ∨ 2 < kind ∨ size < 1 ∨ ¬ goodP nm offm R C ld ∨ ¬ goodP n off R' C' ldx then 1
  else if ¬ (R = C ∧ R' = R) then 3 else if meet then 2 else if kind = 2 ∧ zeroDiag (tab offm ld Fm) R.toNat then 4 else 0
open Classical in
/-- What the right sides' list is then. -/
noncomputable def tleft (kind size : Int) (nm : Nat) (offm R C ld : Int) (n : Nat) (off R' C' ldx : Int) (meet : Prop) (Fm Fx : Nat → Nat) : Nat → Nat :=
  if tcode kind size nm offm R C ld n off R' C' ldx meet Fm = 0 ∧ 0 < R then intoN off ldx R'.toNat C'.toNat (fun i j => sol kind (tab offm ld Fm) R.toNat (fun i => tab off ldx Fx i j) i) Fx else Fx

set_option maxRecDepth 100000
set_option maxHeartbeats 4000000 in
theorem tsolve_stop (kind size : Int) (A : Option Addr) (nm cm : Nat) (offm R C ld : Int) (A' : Option Addr) (n c : Nat) (off R' C' ldx : Int) (w : World) (r : Int) (hR : R = 0 ∨ r ≠ 0)
    (hchk : ∀ W, BL w W → Calls Try.prog 29 #[.int .i64 kind, .int .i64 size, .agg #[.slice A nm cm, .int .i64 offm, .int .i64 R, .int .i64 C, .int .i64 ld], .agg #[.slice A' n c, .int .i64 off, .int .i64 R', .int .i64 C', .int .i64 ldx]] W
      fun e w' => e = .returned (.int .i64 r) ∧ Below W.heap.size W w') :
    Calls Try.prog 10 #[.int .i64 kind, .int .i64 size, .agg #[.slice A nm cm, .int .i64 offm, .int .i64 R, .int .i64 C, .int .i64 ld], .agg #[.slice A' n c, .int .i64 off, .int .i64 R', .int .i64 C', .int .i64 ldx]] w
      fun e w' => e = .returned (.int .i64 r) ∧ Below w.heap.size w w' := by
  have key : (r != 0) = true ∨ ((r != 0) = false ∧ (R == 0) = true) := by
    by_cases h : r = 0
    · right; subst h; rcases hR with h | h
      · subst h; exact ⟨rfl, rfl⟩
      · exact absurd rfl h
    · left; simp [h]
  clear hR
  have HC := Lib.hid hchk
  clear hchk
  rcases key with h1 | ⟨h1, h2⟩
  all_goals
    go_enter Try.func10, Try.ntmps10
    go_wp2_with fail
    refine gen_call (fun W hW => ?_)
    have hB : BL w W := by rw [hW]; repeat (first | exact Below.refl _ _ | refine Below.alloc ?_ (by first | (simp; done) | (simp; omega)) _)
    have hbm : W.heap[w.heap.size + 1]? = some (.cells #[.slice A nm cm, .int .i64 offm, .int .i64 R, .int .i64 C, .int .i64 ld] 24 (0, 0)) := by
      rw [hW]; rw [Below.heap_alloc _ _ _ (by first | (simp; done) | (simp; omega))]; exact new_at _ _ (by simp)
    clear hW
    refine (HC.out W hB).mono ?_
    rintro e w1 ⟨rfl, hb1⟩
    have k2 := cells_of ((show BL W w1 from hb1).row hbm)
    go_wp2
    go_ret
    exact ⟨rfl, BL.call hB hb1⟩

theorem WrB.none {w w1 : World} {g : Nat} {S : Nat → Prop} (h : WrB w w1 g S) (hS : ∀ p, ¬ S p) {k : Nat} {v : Value} (hc : w.cell? ⟨g, k, none⟩ = some v) : BL w w1 := by
  refine ⟨h.os, h.tape, h.output, h.size, fun j hj => ?_⟩
  by_cases hg : j = g
  · subst hg
    unfold World.cell? at hc
    simp only at hc
    cases hr : w.heap[j]? with
    | none => rw [hr] at hc; cases hc
    | some ob =>
      rw [hr] at hc
      cases ob <;> simp only at hc
      all_goals try cases hc
      rename_i cs T z
      obtain ⟨cs', h1, h2, h3⟩ := h.row cs T z hr
      rw [h1]
      congr 2
      exact Array.ext_getElem? fun i => h3 i (hS i)
  · exact h.other j hj hg
theorem cell_of_xat {w : World} {b o n : Nat} {F : Nat → Nat} (h : XAt w b o 0 1 n F) (hn : 0 < n) : ∃ k v, w.cell? ⟨b, k, none⟩ = some v := by
  obtain ⟨v, _, hc, _⟩ := h.one hn
  exact ⟨_, _, hc⟩

theorem tsolve_any (kind size : Int) (A : Option Addr) (nm cm : Nat) (offm R C ld : Int) (A' : Option Addr) (n c : Nat) (off R' C' ldx : Int) (w : World) (b o : Nat) (Fm Fx : Nat → Nat)
    (hs : (nm : Int) ≤ lim) (m1 : I64 offm) (m2 : I64 R) (m3 : I64 C) (m4 : I64 ld) (hs' : (n : Int) ≤ lim) (x1 : I64 off) (x2 : I64 R') (x3 : I64 C') (x4 : I64 ldx) (hz9 : I64 size) (hR4 : R ≤ 4096)
    (hAm : LAt w A nm Fm) (hAx : 0 < n → A' = some ⟨b, o, none⟩ ∧ XAt w b o 0 1 n Fx) (hb : b < w.heap.size) (hfz : FZ w b (LS o n))
    (hsep : 0 < nm → 0 < n → ∀ a a', A = some a → A' = some a' → a' ≠ a → a'.block ≠ a.block ∧ ApartOK w a' a) :
    Calls Try.prog 10 #[.int .i64 kind, .int .i64 size, .agg #[.slice A nm cm, .int .i64 offm, .int .i64 R, .int .i64 C, .int .i64 ld], .agg #[.slice A' n c, .int .i64 off, .int .i64 R', .int .i64 C', .int .i64 ldx]] w
      fun e w' => e = .returned (.int .i64 (tcode kind size nm offm R C ld n off R' C' ldx (meetP A' off R' C' ldx A offm R C ld) Fm)) ∧ WrB w w' b (LS o n) ∧
        (0 < n → XAt w' b o 0 1 n (tleft kind size nm offm R C ld n off R' C' ldx (meetP A' off R' C' ldx A offm R C ld) Fm Fx)) := by
  have stop : ∀ r : Int, tcode kind size nm offm R C ld n off R' C' ldx (meetP A' off R' C' ldx A offm R C ld) Fm = r → (R = 0 ∨ r ≠ 0) →
      (∀ W, BL w W → Calls Try.prog 29 #[.int .i64 kind, .int .i64 size, .agg #[.slice A nm cm, .int .i64 offm, .int .i64 R, .int .i64 C, .int .i64 ld], .agg #[.slice A' n c, .int .i64 off, .int .i64 R', .int .i64 C', .int .i64 ldx]] W
        fun e w' => e = .returned (.int .i64 r) ∧ Below W.heap.size W w') →
      Calls Try.prog 10 #[.int .i64 kind, .int .i64 size, .agg #[.slice A nm cm, .int .i64 offm, .int .i64 R, .int .i64 C, .int .i64 ld], .agg #[.slice A' n c, .int .i64 off, .int .i64 R', .int .i64 C', .int .i64 ldx]] w
        fun e w' => e = .returned (.int .i64 (tcode kind size nm offm R C ld n off R' C' ldx (meetP A' off R' C' ldx A offm R C ld) Fm)) ∧ WrB w w' b (LS o n) ∧
          (0 < n → XAt w' b o 0 1 n (tleft kind size nm offm R C ld n off R' C' ldx (meetP A' off R' C' ldx A offm R C ld) Fm Fx)) := by
    intro r hr h0 hchk
    refine (tsolve_stop kind size A nm cm offm R C ld A' n c off R' C' ldx w r h0 hchk).mono ?_
    rintro e w' ⟨he, hb'⟩
    refine ⟨by rw [hr]; exact he, WrB.of_below hb' _ _, fun hn => ?_⟩
    have ht : tleft kind size nm offm R C ld n off R' C' ldx (meetP A' off R' C' ldx A offm R C ld) Fm Fx = Fx := by
      unfold tleft
      rw [if_neg (by rw [hr]; omega)]
    rw [ht]
    exact (hAx hn).2.later hb'
  by_cases hbad : kind < 1 ∨ 2 < kind ∨ size < 1 ∨ ¬ goodP nm offm R C ld ∨ ¬ goodP n off R' C' ldx
  · exact stop 1 (by unfold tcode; rw [if_pos hbad]) (.inr (by decide)) (fun W _ => tcheck_bad kind size A nm cm offm R C ld A' n c off R' C' ldx W hs m1 m2 m3 m4 hs' x1 x2 x3 x4 hbad)
  · have hk : kind = 1 ∨ kind = 2 := by omega
    have hz : 1 ≤ size := by omega
    have hg : goodP nm offm R C ld := by
      by_cases h : goodP nm offm R C ld
      · exact h
      · exact absurd (.inr (.inr (.inr (.inl h)))) hbad
    have hg' : goodP n off R' C' ldx := by
      by_cases h : goodP n off R' C' ldx
      · exact h
      · exact absurd (.inr (.inr (.inr (.inr h)))) hbad
    obtain ⟨r, hr⟩ : ∃ r, tcode kind size nm offm R C ld n off R' C' ldx (meetP A' off R' C' ldx A offm R C ld) Fm = r := ⟨_, rfl⟩
    have htr : TRes (R = C ∧ R' = R) (meetP A' off R' C' ldx A offm R C ld) (kind = 2 ∧ zeroDiag (tab offm ld Fm) R.toNat) r := by
      rw [← hr]
      unfold tcode
      rw [if_neg hbad]
      refine ⟨fun h => by rw [if_pos h], fun h h2 => by rw [if_neg (fun hh => hh h), if_pos h2], fun h h2 => ⟨fun h3 => by rw [if_neg (fun hh => hh h), if_neg h2, if_pos h3], fun h3 => by rw [if_neg (fun hh => hh h), if_neg h2, if_neg h3]⟩⟩
    have hn0 : 0 < R' → 0 < C' → 0 < n := fun h1 h2 => by have := last_lt hg' h1 h2; omega
    have hm0 : 0 < R → 0 < C → 0 < nm := fun h1 h2 => by have := last_lt hg h1 h2; omega
    have hchk : ∀ W, BL w W → Calls Try.prog 29 #[.int .i64 kind, .int .i64 size, .agg #[.slice A nm cm, .int .i64 offm, .int .i64 R, .int .i64 C, .int .i64 ld], .agg #[.slice A' n c, .int .i64 off, .int .i64 R', .int .i64 C', .int .i64 ldx]] W
        fun e w' => e = .returned (.int .i64 r) ∧ Below W.heap.size W w' := fun W hW =>
      tcheck_good kind size A nm cm offm R C ld A' n c off R' C' ldx W (tab offm ld Fm) hs m1 m2 m3 m4 hs' x1 x2 x3 x4 hk hz hg hg' (fun h => by obtain ⟨b, o, e, _⟩ := hAm h; exact ⟨_, e⟩) (fun h => ⟨_, (hAx h).1⟩)
        (fun l1 l2 a a' h1 h2 h3 => (hsep l2 l1 a' a h2 h1 h3).2.later hW) (fun h1 h2 => by
          obtain ⟨bm, om, e, hX⟩ := hAm (hm0 h1 h2)
          refine ⟨bm, om, e, ((MAt.of_list hX ?_).later hW)⟩
          rw [Int.toNat_of_nonneg (by omega), Int.toNat_of_nonneg (by omega)]; exact hg) r htr
    by_cases h0 : R = 0 ∨ r ≠ 0
    · exact stop r hr h0 hchk
    · have hRp : 0 < R := by have := hg.1; omega
      have hr0 : r = 0 := by omega
      have hP1 : R = C ∧ R' = R := by
        by_cases h : R = C ∧ R' = R
        · exact h
        · have := htr.1 h; omega
      have hP2 : ¬ meetP A' off R' C' ldx A offm R C ld := fun h => by have := htr.2.1 hP1 h; omega
      have hP3 : ¬ (kind = 2 ∧ zeroDiag (tab offm ld Fm) R.toNat) := fun h => by have := (htr.2.2 hP1 hP2).1 h; omega
      obtain ⟨rfl, rfl⟩ := hP1
      obtain ⟨N, hN⟩ : ∃ N : Nat, R' = N := ⟨R'.toNat, by omega⟩
      obtain ⟨K, hK⟩ : ∃ K : Nat, C' = K := ⟨C'.toNat, by have := hg'.2.1; omega⟩
      have ht : tleft kind size nm offm R' R' ld n off R' C' ldx (meetP A' off R' C' ldx A offm R' R' ld) Fm Fx = intoN off ldx R'.toNat C'.toNat (fun i j => sol kind (tab offm ld Fm) R'.toNat (fun i => tab off ldx Fx i j) i) Fx := by
        unfold tleft
        rw [if_pos ⟨by rw [hr, hr0], hRp⟩]
      rw [ht, hr, hr0]
      subst hN hK
      simp only [Int.toNat_natCast] at hP3 ⊢
      obtain ⟨bm, om, rfl, hXm⟩ := hAm (hm0 hRp hRp)
      have hM := MAt.of_list hXm hg
      have hdd : kind = 2 → ∀ k, k < N → feq (tab offm ld Fm k k) 0 = false := fun h k hk => by
        rw [← Bool.not_eq_true]; exact fun he => hP3 ⟨h, k, hk, he⟩
      have hab2 : 0 < n → ∀ a, A' = some a → a ≠ ⟨bm, om, none⟩ → ApartOK w a ⟨bm, om, none⟩ := fun l1 a h1 h2 => (hsep (hm0 hRp hRp) l1 _ a rfl h1 h2).2
      -- whatever the kind
      have hsol : ∀ (b' o' : Nat) (X : Nat → Nat → Nat), (0 < K → A' = some ⟨b', o', none⟩) → (bm = b' → om = o') → (¬ meetP (some ⟨b', o', none⟩) off N K ldx (some ⟨bm, om, none⟩) offm N N ld) → ((⟨b', o', none⟩ : Addr) ≠ ⟨bm, om, none⟩ → ApartOK w ⟨b', o', none⟩ ⟨bm, om, none⟩) →
          MAt w b' o' off ldx N K X → FZ w b' (MS o' off ldx N K) → b' < w.heap.size →
          Calls Try.prog 10 #[.int .i64 kind, .int .i64 size, .agg #[.slice (some ⟨bm, om, none⟩) nm cm, .int .i64 offm, .int .i64 N, .int .i64 N, .int .i64 ld], .agg #[.slice A' n c, .int .i64 off, .int .i64 N, .int .i64 K, .int .i64 ldx]] w
            fun e w' => e = .returned (.int .i64 0) ∧ WrB w w' b' (MS o' off ldx N K) ∧ MAt w' b' o' off ldx N K (fun i k => sol kind (tab offm ld Fm) N (fun i => X i k) i) := by
        intro b' o' X h1 h2 h3 h4 h5 h6 h7
        rcases hk with rfl | rfl
        · exact tsolve1 bm om nm cm offm ld A' b' o' n c off ldx N K size w X _ h1 hs m1 m4 hg hs' x1 x4 hg' (by omega) (by omega) x3 hz hz9 h2 h3 h4 (fun h => ⟨_, (hAx h).1⟩) hab2 h5 hM h6 h7
        · exact tsolve2 bm om nm cm offm ld A' b' o' n c off ldx N K size w X _ h1 hs m1 m4 hg hs' x1 x4 hg' (by omega) (by omega) x3 hz hz9 h2 h3 h4 (fun h => ⟨_, (hAx h).1⟩) hab2 h5 hM (hdd rfl) h6 h7
      by_cases hK0 : 0 < K
      · have hnn := hn0 hRp (by omega)
        obtain ⟨rfl, hXx⟩ := hAx hnn
        have hMx := MAt.of_list hXx hg'
        have hsm : bm = b → om = o := fun h => by
          by_cases e : (⟨b, o, none⟩ : Addr) = ⟨bm, om, none⟩
          · cases e; rfl
          · exact absurd h.symm (hsep (hm0 hRp hRp) hnn _ _ rfl rfl e).1
        refine (hsol b o (tab off ldx Fx) (fun _ => rfl) hsm hP2 (fun h => hab2 hnn _ rfl h) hMx (hfz.sub fun p hp => MS.list hg' hp) hb).mono ?_
        rintro e w' ⟨he, hw, hY⟩
        exact ⟨he, hw.mono fun p hp => MS.list hg' hp, fun _ => XAt.of_mat hXx hw hY hg'⟩
      · obtain rfl : K = 0 := by omega
        obtain ⟨k, v, hcell⟩ := cell_of_xat hXm (hm0 hRp hRp)
        refine (hsol bm om (fun _ _ => 0) (fun h => absurd h hK0) (fun _ => rfl) (fun h => by have := h.1.2; omega) (fun h => absurd rfl h) (fun i j _ hj => absurd hj (by omega)) (fun p hp => by obtain ⟨i, j, _, hj, _⟩ := hp; omega) (World.block_lt_of_cell? w _ hcell)).mono ?_
        rintro e w' ⟨he, hw, _⟩
        have hbl : BL w w' := hw.none (fun p hp => by obtain ⟨i, j, _, hj, _⟩ := hp; omega) hcell
        refine ⟨he, WrB.of_below hbl _ _, fun hn => ((hAx hn).2.later hbl).congr fun p hp => ?_⟩
        unfold intoN
        rw [if_neg (fun h => Nat.not_lt_zero _ h.2.2)]
end Go.Proofs.Ytapilgbbkbfcbaa
