/- Words on memory: numbers of vectors and matrices as they stand in it; what a write to one row of cells leaves. -/
import Derived.Test.YtapilgbbkbfcbaaS2
import Derived.Test.YtapilgbbkbfcbaaP1
namespace Go.Proofs.Ytapilgbbkbfcbaa
open Go Go.RowKit

/-- A vector's numbers. -/
def XAt (w : World) (b o : Nat) (off inc : Int) (N : Nat) (X : Nat → Nat) : Prop :=
  ∀ k, k < N → ∃ v, v < 18446744073709551616 ∧ w.cell? ⟨b, o + (off + (k : Int) * inc).toNat, none⟩ = some (.float .f64 v) ∧ cn v = X k
/-- A matrix' numbers. -/
def MAt (w : World) (b o : Nat) (off ld : Int) (R C : Nat) (M : Nat → Nat → Nat) : Prop :=
  ∀ i j, i < R → j < C → ∃ v, v < 18446744073709551616 ∧ w.cell? ⟨b, o + (off + (i : Int) + (j : Int) * ld).toNat, none⟩ = some (.float .f64 v) ∧ cn v = M i j
/-- A vector's places. -/
def XS (o : Nat) (off inc : Int) (N : Nat) (k : Nat) : Prop := ∃ i : Nat, i < N ∧ k = o + (off + (i : Int) * inc).toNat

/-- Of what was there only places S of block g may have turned. -/
structure WrB (w w' : World) (g : Nat) (S : Nat → Prop) : Prop where
  os : w'.os = w.os
  tape : w'.tape = w.tape
  output : w'.output = w.output
  size : w.heap.size ≤ w'.heap.size
  other : ∀ k, k < w.heap.size → k ≠ g → w'.heap[k]? = w.heap[k]?
  row : ∀ cs T z, w.heap[g]? = some (.cells cs T z) → ∃ cs' : Array Value, w'.heap[g]? = some (.cells cs' T z) ∧ cs'.size = cs.size ∧ ∀ k, ¬ S k → cs'[k]? = cs[k]?

theorem WrB.of_below {w w' : World} (h : BL w w') (g : Nat) (S : Nat → Prop) : WrB w w' g S :=
  ⟨h.os, h.tape, h.output, h.size, fun k hk _ => h.block k hk, fun cs T z hg => ⟨cs, h.row hg, rfl, fun _ _ => rfl⟩⟩
theorem WrB.refl (w : World) (g : Nat) (S : Nat → Prop) : WrB w w g S := WrB.of_below (BL.refl w) g S
theorem WrB.trans {a b c : World} {g : Nat} {S : Nat → Prop} (h : WrB a b g S) (k : WrB b c g S) : WrB a c g S := by
  refine ⟨k.os.trans h.os, k.tape.trans h.tape, k.output.trans h.output, Nat.le_trans h.size k.size, fun i hi hg => (k.other i (Nat.lt_of_lt_of_le hi h.size) hg).trans (h.other i hi hg), fun cs T z hg => ?_⟩
  obtain ⟨cs1, h1, h2, h3⟩ := h.row cs T z hg
  obtain ⟨cs2, k1, k2, k3⟩ := k.row cs1 T z h1
  exact ⟨cs2, k1, k2.trans h2, fun i hi => (k3 i hi).trans (h3 i hi)⟩
theorem WrB.mono {a b : World} {g : Nat} {S S' : Nat → Prop} (h : WrB a b g S) (hS : ∀ k, S k → S' k) : WrB a b g S' :=
  ⟨h.os, h.tape, h.output, h.size, h.other, fun cs T z hg => let ⟨cs', h1, h2, h3⟩ := h.row cs T z hg; ⟨cs', h1, h2, fun k hk => h3 k fun hs => hk (hS k hs)⟩⟩
theorem WrB.set (w : World) (g k : Nat) (S : Nat → Prop) (hk : S k) (v : Value) : WrB w (w.setCell ⟨g, k, none⟩ v) g S := by
  refine ⟨rfl, rfl, rfl, by simp [World.setCell], fun i hi hg => Below.heap_setCell _ _ _ _ hg, fun cs T z hg => ⟨cs.setIfInBounds k v, ?_, by simp, fun i hi => ?_⟩⟩
  · simp [World.setCell, Array.getElem?_modify, hg]
  · rw [Array.getElem?_setIfInBounds_ne (by intro h; subst h; exact hi hk)]
theorem WrB.cell {w w' : World} {g : Nat} {S : Nat → Prop} (h : WrB w w' g S) {b k : Nat} {v : Value} (hc : w.cell? ⟨b, k, none⟩ = some v) (hn : b ≠ g ∨ ¬ S k) : w'.cell? ⟨b, k, none⟩ = some v := by
  have hb : b < w.heap.size := World.block_lt_of_cell? w _ hc
  by_cases hg : b = g
  · subst hg
    unfold World.cell? at hc ⊢
    simp only at hc ⊢
    cases hr : w.heap[b]? with
    | none => rw [hr] at hc; cases hc
    | some ob =>
      rw [hr] at hc
      cases ob <;> simp only at hc
      all_goals try cases hc
      rename_i cs T z
      obtain ⟨cs', h1, h2, h3⟩ := h.row cs T z hr
      rw [h1]
      simp only [Option.isSome_none, Bool.false_eq_true, if_false] at hc ⊢
      rw [h3 k (by simpa using hn)]
      exact hc
  · rw [World.cell?_of_block (w := w) (h.other b hb hg)]; exact hc
theorem WrB.frozen {w w' : World} {g : Nat} {S : Nat → Prop} (h : WrB w w' g S) {b k : Nat} {v : Value} (hc : w.cell? ⟨b, k, none⟩ = some v) : w'.frozen? ⟨b, k, none⟩ = w.frozen? ⟨b, k, none⟩ := by
  have hb : b < w.heap.size := World.block_lt_of_cell? w _ hc
  by_cases hg : b = g
  · subst hg
    unfold World.cell? at hc
    simp only at hc
    cases hr : w.heap[b]? with
    | none => rw [hr] at hc; cases hc
    | some ob =>
      rw [hr] at hc
      cases ob <;> simp only at hc
      all_goals try cases hc
      rename_i cs T z
      obtain ⟨cs', h1, h2, h3⟩ := h.row cs T z hr
      simp [World.frozen?, hr, h1]
  · exact World.frozen?_of_block (w := w) (h.other b hb hg)
/-- A row that isn't written. -/
theorem WrB.keep {w w' : World} {g : Nat} {S : Nat → Prop} (h : WrB w w' g S) {r : Nat} {ob : Obj} (hr : w.heap[r]? = some ob) (hn : r ≠ g) : w'.heap[r]? = some ob :=
  (h.other r (Array.getElem?_eq_some_iff.1 hr).1 hn).trans hr

theorem addr_ne {off inc : Int} {i k : Nat} (ho : 0 ≤ off) (hi : 1 ≤ inc) (h : i ≠ k) : (off + (i : Int) * inc).toNat ≠ (off + (k : Int) * inc).toNat := by
  have a1 : 0 ≤ (i : Int) * inc := Int.mul_nonneg (by omega) (by omega)
  have a2 : 0 ≤ (k : Int) * inc := Int.mul_nonneg (by omega) (by omega)
  intro e
  have e2 : (i : Int) * inc = (k : Int) * inc := by omega
  have := Int.eq_of_mul_eq_mul_right (by omega) e2
  omega

theorem set_self {w : World} {a : Addr} {u : Value} (ha : a.spot = none) (h : w.cell? a = some u) (v : Value) : (w.setCell a v).cell? a = some v := by
  unfold World.cell? at h ⊢
  unfold World.setCell
  cases hr : w.heap[a.block]? with
  | none => rw [hr] at h; cases h
  | some ob =>
    rw [hr] at h
    cases ob <;> simp only at h
    all_goals try cases h
    rename_i cs T z
    simp only [ha, Option.isSome_none, Bool.false_eq_true, if_false] at h
    simp [Array.getElem?_modify, hr, ha, (Array.getElem?_eq_some_iff.1 h).1]
theorem set_other {w : World} {a c : Addr} (h : c.block ≠ a.block ∨ c.off ≠ a.off) (ha : a.spot = none) (hc : c.spot = none) (v : Value) : (w.setCell a v).cell? c = w.cell? c := by
  unfold World.cell? World.setCell
  by_cases hb : c.block = a.block
  · simp only [Array.getElem?_modify, hb]
    cases hr : w.heap[a.block]? with
    | none => simp
    | some ob =>
      cases ob <;> simp [ha, hc]
      exact Array.getElem?_setIfInBounds_ne (by omega)
  · simp only [Array.getElem?_modify]
    rw [if_neg (fun h => hb h.symm)]

/-- One number of a vector is written anew. -/
theorem XAt.put {w w1 : World} {b o : Nat} {off inc : Int} {N : Nat} {X : Nat → Nat} (h : XAt w b o off inc N X) (hb : BL w w1) (ho : 0 ≤ off) (hi : 1 ≤ inc) (i r : Nat) (hiN : i < N) (hr : r < 18446744073709551616) :
    XAt (w1.setCell ⟨b, o + (off + (i : Int) * inc).toNat, none⟩ (.float .f64 r)) b o off inc N (upd X i (cn r)) := by
  intro k hk
  obtain ⟨v, hv, hc, hx⟩ := h k hk
  by_cases hik : k = i
  · subst hik
    exact ⟨r, hr, set_self rfl (hb.cell hc) _, by simp [upd]⟩
  · refine ⟨v, hv, ?_, by simp [upd, hik, hx]⟩
    rw [set_other (.inr ?_) rfl rfl]
    · exact hb.cell hc
    · have := addr_ne (i := k) (k := i) ho hi hik
      simp only
      omega
theorem XAt.later {w w1 : World} {b o : Nat} {off inc : Int} {N : Nat} {X : Nat → Nat} (h : XAt w b o off inc N X) (hb : BL w w1) : XAt w1 b o off inc N X :=
  fun k hk => let ⟨v, hv, hc, hx⟩ := h k hk; ⟨v, hv, hb.cell hc, hx⟩
theorem MAt.later {w w1 : World} {b o : Nat} {off ld : Int} {R C : Nat} {M : Nat → Nat → Nat} (h : MAt w b o off ld R C M) (hb : BL w w1) : MAt w1 b o off ld R C M :=
  fun i j hi hj => let ⟨v, hv, hc, hx⟩ := h i j hi hj; ⟨v, hv, hb.cell hc, hx⟩
/-- No number of the matrix is one of the vector. -/
def MXSep (bm om : Nat) (offm ld : Int) (R C : Nat) (b o : Nat) (off inc : Int) (N : Nat) : Prop :=
  ∀ i j k : Nat, i < R → j < C → k < N → bm = b → om + (offm + (i : Int) + (j : Int) * ld).toNat ≠ o + (off + (k : Int) * inc).toNat
theorem MAt.wr {w w1 : World} {bm om : Nat} {offm ld : Int} {R C : Nat} {M : Nat → Nat → Nat} {b o : Nat} {off inc : Int} {N : Nat} (h : MAt w bm om offm ld R C M) (hw : WrB w w1 b (XS o off inc N)) (hs : MXSep bm om offm ld R C b o off inc N) : MAt w1 bm om offm ld R C M :=
  fun i j hi hj => let ⟨v, hv, hc, hx⟩ := h i j hi hj; ⟨v, hv, hw.cell hc (by
    by_cases hb : bm = b
    · exact .inr fun ⟨k, hk, e⟩ => hs i j k hi hj hk hb e
    · exact .inl hb), hx⟩
end Go.Proofs.Ytapilgbbkbfcbaa
