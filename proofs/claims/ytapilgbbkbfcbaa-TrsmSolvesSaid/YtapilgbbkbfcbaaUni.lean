/- Regions whose order is open: operations that leave the same value in every world of a class may be taken first; then the others, in forced order. No condition. -/
import Derived.Test.YtapilgbbkbfcbaaCalm
import Derived.OrdersHeld
import Derived.Attr
import Derived.Below
namespace Go.Proofs.Ytapilgbbkbfcbaa
open Go Go.RowKit

section
variable {P : Program} {ops : Array Oper} {md : Region.Mode} {S : World → Prop} {Q : Exit → Act → World → Prop}

def uniR (md : Region.Mode) (ops : Array Oper) : List Nat → Array Bool → Bool
  | [], listed => (Region.ready md ops listed).isEmpty
  | r :: rs, listed => decide (Region.ready md ops listed = [r]) && uniR md ops rs (listed.setIfInBounds r true)
def uniU (md : Region.Mode) (ops : Array Oper) (R : List Nat) : List Nat → Array Bool → Bool
  | [], listed => uniR md ops R listed
  | u :: us, listed => Region.free md ops listed u && (Region.ready md ops listed).contains u && uniU md ops R us (listed.setIfInBounds u true)
/-- The others, one by one: behind each the class is to be shown anew. -/
def wpRest (P : Program) (ops : Array Oper) (S : World → Prop) (Q : Exit → Act → World → Prop) : List Oper → Act → World → Prop
  | [], a, w => Q .normal a w
  | o :: rest, a, w => if Region.wanted o (yielded ops a.tmps) then o.wp P a w (fun a' w' => S w' ∧ wpRest P ops S Q rest a' w') Q else wpRest P ops S Q rest (a.put o.dst undef) w
/-- Those that are taken first. -/
def wpUni (P : Program) (ops : Array Oper) (S : World → Prop) (F : Act → Prop) : List Oper → Act → Prop
  | [], a => F a
  | o :: rest, a => ∃ v, YieldsIf P ops S o v a ∧ wpUni P ops S F rest (a.put o.dst v)

theorem rest_held (rs : List Nat) : ∀ (l : List Oper) (listed : Array Bool) (a : Act) (w : World), l.length = rs.length → (∀ j, j < rs.length → ∃ o, l[j]? = some o ∧ (rs[j]?).bind (ops[·]?) = some o) → uniR md ops rs listed = true → S w → wpRest P ops S Q l a w →
    wpAnyH P md ops Q S rs.length listed a w := by
  induction rs with
  | nil =>
    intro l listed a w hl _ hB _ h
    have : l = [] := List.eq_nil_of_length_eq_zero hl
    subst this
    exact ⟨by simpa [uniR] using hB, h⟩
  | cons r rs ih =>
    intro l listed a w hl hj hB hS h
    cases l with
    | nil => simp at hl
    | cons o l =>
      simp only [uniR, Bool.and_eq_true, decide_eq_true_eq] at hB
      obtain ⟨o', h1, h2⟩ := hj 0 (by simp)
      have ho : ops[r]? = some o := by
        simp at h1 h2; rw [h1]; exact h2
      refine wpAnyH_all hB.1 (by simp) (fun i hi => ?_)
      have hir : i = r := by simpa using hi
      rw [hir]
      have next : ∀ a' w', S w' → wpRest P ops S Q l a' w' → S w' ∧ wpAnyH P md ops Q S rs.length (listed.setIfInBounds r true) a' w' := fun a' w' hs hr =>
        ⟨hs, ih l _ a' w' (by simpa using hl) (fun j hj' => by have := hj (j + 1) (by simp; omega); simpa using this) hB.2 hs hr⟩
      unfold wpOp
      simp only [ho]
      unfold wpRest at h
      by_cases hw : Region.wanted o (yielded ops a.tmps) = true
      · simp only [hw, if_true] at h ⊢
        exact .inl (Oper.wp_mono (fun a' w' h' => next a' w' h'.1 h'.2) h)
      · simp only [hw, if_false, Bool.false_eq_true] at h ⊢
        exact next _ _ hS h
theorem uni_held (hs : Region.noSelect ops = true) (hQ : ∀ c (dst : Option Tmp) (v : Value) a w, Q (.panic c) (a.put dst v) w → Q (.panic c) a w) (R : List Nat) {F : Act → Prop} (us : List Nat) : ∀ (l : List Oper) (listed : Array Bool) (a : Act) (w : World), l.length = us.length → (∀ j, j < us.length → ∃ o, l[j]? = some o ∧ (us[j]?).bind (ops[·]?) = some o) →
    uniU md ops R us listed = true → S w → wpUni P ops S F l a → (∀ a listed, uniR md ops R listed = true → F a → wpAnyH P md ops Q S R.length listed a w) → wpAnyH P md ops Q S (us.length + R.length) listed a w := by
  induction us with
  | nil =>
    intro l listed a w hl _ hB _ h hF
    have : l = [] := List.eq_nil_of_length_eq_zero hl
    subst this
    simp only [List.length_nil, Nat.zero_add]
    exact hF a listed hB h
  | cons u us ih =>
    intro l listed a w hl hj hB hS h hF
    cases l with
    | nil => simp at hl
    | cons o l =>
      simp only [uniU, Bool.and_eq_true] at hB
      obtain ⟨o', h1, h2⟩ := hj 0 (by simp)
      have ho : ops[u]? = some o := by
        simp at h1 h2; rw [h1]; exact h2
      obtain ⟨v, hv, hr⟩ := h
      have := ih l (listed.setIfInBounds u true) _ w (by simpa using hl) (fun j hj' => by have := hj (j + 1) (by simp; omega); simpa using this) hB.2 hS hr hF
      rw [show (u :: us).length + R.length = (us.length + R.length) + 1 by simp; omega]
      exact wpAnyH_take ho hs hB.1.1 hB.1.2 (fun c a w => hQ c o.dst v a w) hv hS this

def pickL (l : List Oper) (is : List Nat) : List Oper := is.filterMap (l[·]?)
def uniB (l : List Oper) (us rs : List Nat) : Bool := Region.noSelect l.toArray && us.all (· < l.length) && rs.all (· < l.length) && decide (us.length + rs.length = l.length) && uniU .any l.toArray rs us (Array.replicate l.toArray.size false)
theorem pick_get {l : List Oper} : ∀ {is : List Nat}, is.all (· < l.length) = true → (pickL l is).length = is.length ∧ ∀ j, j < is.length → ∃ o, (pickL l is)[j]? = some o ∧ (is[j]?).bind (l.toArray[·]?) = some o
  | [], _ => ⟨rfl, fun j hj => by cases hj⟩
  | i :: is, h => by
    simp only [List.all_cons, Bool.and_eq_true, decide_eq_true_eq] at h
    obtain ⟨h1, h2⟩ := pick_get h.2
    have e : pickL l (i :: is) = l[i]'h.1 :: pickL l is := by simp [pickL, List.filterMap_cons, h.1]
    rw [e]
    refine ⟨by simp [h1], fun j hj => ?_⟩
    cases j with
    | zero => exact ⟨_, rfl, by simp [h.1]⟩
    | succ j => simpa using h2 j (by simpa using hj)
theorem wp_region_uni {id : Nat} {a : Act} {w : World} {l : List Oper} (us rs : List Nat) (S : World → Prop) (hm : P.follows .mixedOrders = true) (hB : uniB l us rs = true) (hS : S w.drew)
    (hQ : ∀ c (dst : Option Tmp) (v : Value) a w, Q (.panic c) (a.put dst v) w → Q (.panic c) a w)
    (h : wpUni P l.toArray S (fun a' => wpRest P l.toArray S Q (pickL l rs) a' w.drew) (pickL l us) a) : (Code.region id l.toArray true).wp P Q a w := by
  simp only [uniB, Bool.and_eq_true, decide_eq_true_eq] at hB
  obtain ⟨⟨⟨⟨hsel, hu⟩, hr⟩, hlen⟩, hU⟩ := hB
  refine wp_region_held (S := S) hm ?_
  have := uni_held (P := P) (S := S) (Q := Q) hsel hQ rs us (pickL l us) _ a w.drew (pick_get hu).1 (pick_get hu).2 hU hS h (fun a' listed hB' hF => rest_held rs (pickL l rs) listed a' w.drew (pick_get hr).1 (pick_get hr).2 hB' hS hF)
  rw [hlen, show l.length = l.toArray.size by simp] at this
  exact this
theorem uni_step {F : Act → Prop} {o : Oper} {rest : List Oper} {a : Act} (hg : o.guard = none) (v : Value) (hv : ∀ w, S w → (execOp a.eval o).run P w = .ok (.value v) w) (h : wpUni P ops S F rest (a.put o.dst v)) : wpUni P ops S F (o :: rest) a :=
  ⟨v, .inl ⟨by simp [Region.wanted, hg], hv⟩, h⟩
theorem uni_end {F : Act → Prop} {a : Act} (h : F a) : wpUni P ops S F [] a := h
theorem rest_step {o : Oper} {rest : List Oper} {a : Act} {w : World} (hg : o.guard = none) (h : o.wp P a w (fun a' w' => S w' ∧ wpRest P ops S Q rest a' w') Q) : wpRest P ops S Q (o :: rest) a w := by
  unfold wpRest
  rw [if_pos (by simp [Region.wanted, hg])]
  exact h
theorem rest_val {o : Oper} {rest : List Oper} {a : Act} {w : World} (hg : o.guard = none) (v : Value) (hv : (execOp a.eval o).run P w = .ok (.value v) w) (hS : S w) (h : wpRest P ops S Q rest (a.put o.dst v) w) : wpRest P ops S Q (o :: rest) a w :=
  rest_step hg (by unfold Oper.wp; rw [hv]; exact ⟨hS, h⟩)
theorem rest_end {a : Act} {w : World} (h : Q .normal a w) : wpRest P ops S Q [] a w := h
attribute [irreducible] wpUni wpRest
end
end Go.Proofs.Ytapilgbbkbfcbaa
