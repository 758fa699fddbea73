/- Regions whose order is open: operations that leave the same value in every world of a class, and others whose order is forced, as a plan lists them. No condition. -/
import Derived.Test.YtapilgbbkbfcbaaUni
import Derived.Test.YtapilgbbkbfcbaaFree
namespace Go.Proofs.Ytapilgbbkbfcbaa
open Go Go.RowKit

section
variable {P : Program} {ops : Array Oper} {md : Region.Mode} {S : World → Prop} {Q : Exit → Act → World → Prop}
def mixR (md : Region.Mode) (ops : Array Oper) : List (Nat × Bool) → Array Bool → Bool
  | [], listed => (Region.ready md ops listed).isEmpty
  | (i, true) :: r, listed => Region.free md ops listed i && (Region.ready md ops listed).contains i && mixR md ops r (listed.setIfInBounds i true)
  | (i, false) :: r, listed => decide (Region.ready md ops listed = [i]) && mixR md ops r (listed.setIfInBounds i true)
def wpMix (P : Program) (ops : Array Oper) (S : World → Prop) (Q : Exit → Act → World → Prop) : List (Oper × Bool) → Act → World → Prop
  | [], a, w => Q .normal a w
  | (o, true) :: r, a, w => ∃ v, YieldsIf P ops S o v a ∧ wpMix P ops S Q r (a.put o.dst v) w
  | (o, false) :: r, a, w => if Region.wanted o (yielded ops a.tmps) then o.wp P a w (fun a' w' => S w' ∧ wpMix P ops S Q r a' w') Q else wpMix P ops S Q r (a.put o.dst undef) w
theorem mix_held (hs : Region.noSelect ops = true) (hQ : ∀ c (dst : Option Tmp) (v : Value) a w, Q (.panic c) (a.put dst v) w → Q (.panic c) a w) (pl : List (Nat × Bool)) : ∀ (l : List (Oper × Bool)) (listed : Array Bool) (a : Act) (w : World), l.length = pl.length → (∀ j, j < pl.length → ∃ o b, l[j]? = some (o, b) ∧ ∃ i, pl[j]? = some (i, b) ∧ ops[i]? = some o) →
    mixR md ops pl listed = true → S w → wpMix P ops S Q l a w → wpAnyH P md ops Q S pl.length listed a w := by
  induction pl with
  | nil =>
    intro l listed a w hl _ hB _ h
    have : l = [] := List.eq_nil_of_length_eq_zero hl
    subst this
    exact ⟨by simpa [mixR] using hB, h⟩
  | cons p pl ih =>
    intro l listed a w hl hj hB hS h
    cases l with
    | nil => simp at hl
    | cons q l =>
      obtain ⟨o, b, h1, i, h2, ho⟩ := hj 0 (by simp)
      simp only [List.getElem?_cons_zero, Option.some.injEq] at h1 h2
      subst h1 h2
      have hj' : ∀ j, j < pl.length → ∃ o b, l[j]? = some (o, b) ∧ ∃ i, pl[j]? = some (i, b) ∧ ops[i]? = some o := fun j hj' => by
        have := hj (j + 1) (by simp; omega); simpa using this
      cases b with
      | true =>
        simp only [mixR, Bool.and_eq_true] at hB
        obtain ⟨v, hv, hr⟩ := h
        exact wpAnyH_take ho hs hB.1.1 hB.1.2 (fun c a w => hQ c o.dst v a w) hv hS (ih l _ _ w (by simpa using hl) hj' hB.2 hS hr)
      | false =>
        simp only [mixR, Bool.and_eq_true, decide_eq_true_eq] at hB
        refine wpAnyH_all hB.1 (by simp) (fun k hk => ?_)
        have hki : k = i := by simpa using hk
        rw [hki]
        have next : ∀ a' w', S w' → wpMix P ops S Q l a' w' → S w' ∧ wpAnyH P md ops Q S pl.length (listed.setIfInBounds i true) a' w' := fun a' w' hs hr =>
          ⟨hs, ih l _ a' w' (by simpa using hl) hj' hB.2 hs hr⟩
        unfold wpOp
        simp only [ho]
        unfold wpMix at h
        by_cases hw : Region.wanted o (yielded ops a.tmps) = true
        · simp only [hw, if_true] at h ⊢
          exact .inl (Oper.wp_mono (fun a' w' h' => next a' w' h'.1 h'.2) h)
        · simp only [hw, if_false, Bool.false_eq_true] at h ⊢
          exact next _ _ hS h
def pickM (l : List Oper) (pl : List (Nat × Bool)) : List (Oper × Bool) := pl.filterMap fun (i, b) => (l[i]?).map fun o => (o, b)
def mixB (l : List Oper) (pl : List (Nat × Bool)) : Bool := Region.noSelect l.toArray && pl.all (fun p => p.1 < l.length) && decide (pl.length = l.length) && mixR .any l.toArray pl (Array.replicate l.toArray.size false)
theorem pickM_get {l : List Oper} : ∀ {pl : List (Nat × Bool)}, pl.all (fun p => p.1 < l.length) = true → (pickM l pl).length = pl.length ∧ ∀ j, j < pl.length → ∃ o b, (pickM l pl)[j]? = some (o, b) ∧ ∃ i, pl[j]? = some (i, b) ∧ l.toArray[i]? = some o
  | [], _ => ⟨rfl, fun j hj => by cases hj⟩
  | (i, b) :: pl, h => by
    simp only [List.all_cons, Bool.and_eq_true, decide_eq_true_eq] at h
    obtain ⟨h1, h2⟩ := pickM_get h.2
    have e : pickM l ((i, b) :: pl) = (l[i]'h.1, b) :: pickM l pl := by simp [pickM, List.filterMap_cons, h.1]
    rw [e]
    refine ⟨by simp [h1], fun j hj => ?_⟩
    cases j with
    | zero => exact ⟨_, b, rfl, i, rfl, by simp [h.1]⟩
    | succ j => simpa using h2 j (by simpa using hj)
theorem wp_region_mix {id : Nat} {a : Act} {w : World} {l : List Oper} (pl : List (Nat × Bool)) (S : World → Prop) (hm : P.follows .mixedOrders = true) (hB : mixB l pl = true) (hS : S w.drew)
    (hQ : ∀ c (dst : Option Tmp) (v : Value) a w, Q (.panic c) (a.put dst v) w → Q (.panic c) a w)
    (h : wpMix P l.toArray S Q (pickM l pl) a w.drew) : (Code.region id l.toArray true).wp P Q a w := by
  simp only [mixB, Bool.and_eq_true, decide_eq_true_eq] at hB
  obtain ⟨⟨⟨hsel, hu⟩, hlen⟩, hU⟩ := hB
  refine wp_region_held (S := S) hm ?_
  have := mix_held (P := P) (S := S) (Q := Q) hsel hQ pl (pickM l pl) _ a w.drew (pickM_get hu).1 (pickM_get hu).2 hU hS h
  rw [hlen, show l.length = l.toArray.size by simp] at this
  exact this
theorem mix_uni {o : Oper} {r : List (Oper × Bool)} {a : Act} {w : World} (hw : Region.wanted o (yielded ops a.tmps) = true) (v : Value) (hv : ∀ w, S w → (execOp a.eval o).run P w = .ok (.value v) w) (h : wpMix P ops S Q r (a.put o.dst v) w) : wpMix P ops S Q ((o, true) :: r) a w :=
  ⟨v, .inl ⟨hw, hv⟩, h⟩
theorem mix_uniN {o : Oper} {r : List (Oper × Bool)} {a : Act} {w : World} (hw : Region.wanted o (yielded ops a.tmps) = false) (h : wpMix P ops S Q r (a.put o.dst undef) w) : wpMix P ops S Q ((o, true) :: r) a w :=
  ⟨undef, .inr ⟨hw, rfl⟩, h⟩
theorem mix_do {o : Oper} {r : List (Oper × Bool)} {a : Act} {w : World} (hw : Region.wanted o (yielded ops a.tmps) = true) (h : o.wp P a w (fun a' w' => S w' ∧ wpMix P ops S Q r a' w') Q) : wpMix P ops S Q ((o, false) :: r) a w := by
  unfold wpMix; rw [if_pos hw]; exact h
theorem mix_not {o : Oper} {r : List (Oper × Bool)} {a : Act} {w : World} (hw : Region.wanted o (yielded ops a.tmps) = false) (h : wpMix P ops S Q r (a.put o.dst undef) w) : wpMix P ops S Q ((o, false) :: r) a w := by
  unfold wpMix; rw [if_neg (by rw [hw]; simp)]; exact h
theorem mix_val {o : Oper} {r : List (Oper × Bool)} {a : Act} {w : World} (hw : Region.wanted o (yielded ops a.tmps) = true) (v : Value) (hv : (execOp a.eval o).run P w = .ok (.value v) w) (hS : S w) (h : wpMix P ops S Q r (a.put o.dst v) w) : wpMix P ops S Q ((o, false) :: r) a w :=
  mix_do hw (by unfold Oper.wp; rw [hv]; exact ⟨hS, h⟩)
theorem mix_end {a : Act} {w : World} (h : Q .normal a w) : wpMix P ops S Q [] a w := h
attribute [irreducible] wpMix
end
/-! ### Operations that make memory; one of them may even come behind a later one that writes -/
section
variable {P : Program} {ops : Array Oper} {md : Region.Mode} {C : World → Prop} {deps : Nat → List Nat} {ψ : Nat → Value → World → Prop} {own : Nat → Value → List Nat}

def sinkQ (md : Region.Mode) (ops : Array Oper) (q n : Nat) : Bool :=
  (List.range n).all fun i => i == q || (List.range (n + 1)).any fun j => decide (i < j) && j != q && Region.waitsFor md ops j i
def lateL (ops : Array Oper) (n q : Nat) : Array Bool := (Array.range ops.size).map fun k => decide (k < n ∧ k ≠ q)
theorem tail_waitsQ {n q : Nat} {listed : Array Bool} (hs : sinkQ md ops q n = true) (hc : Region.chainB md ops n = true) (hn : n < ops.size) (inv : HeadInv md ops n listed) :
    ∀ (d i : Nat), n - i = d → i < n → i ≠ q → listed.getD i true = false → ∀ t, n ≤ t → t ∉ Region.ready md ops listed := by
  intro d
  induction d using Nat.strongRecOn with
  | _ d ih =>
    intro i hd hi hiq hun t ht hr
    induction t with
    | zero => omega
    | succ t iht =>
    obtain ⟨_, ot, hot, hall⟩ := mem_ready.1 hr
    have htlt : t + 1 < ops.size := (Array.getElem?_eq_some_iff.1 hot).1
    by_cases htn : t + 1 = n
    · have h1 := List.all_eq_true.1 hs i (List.mem_range.2 hi)
      simp only [Bool.or_eq_true, beq_iff_eq, hiq, false_or] at h1
      obtain ⟨j, hj, hj2⟩ := List.any_eq_true.1 h1
      simp only [Bool.and_eq_true, decide_eq_true_eq, bne_iff_ne] at hj2
      obtain ⟨oj, hoj, e, he, hb, hon⟩ := Region.waitsFor_spec hj2.2
      have hjle : j ≤ t + 1 := by have := List.mem_range.1 hj; omega
      by_cases hjt : j = t + 1
      · subst hjt
        have : oj = ot := Option.some.inj (hoj.symm.trans hot)
        subst this
        have h2 := hall e he hb
        rw [hon, getD_both hun] at h2
        cases h2
      · cases hl : listed.getD j false with
        | true =>
          have h2 := inv.closed j oj hoj hl e he hb
          rw [hon, getD_both hun] at h2
          cases h2
        | false =>
          have hjs : j < listed.size := by rw [inv.size]; omega
          exact ih (n - j) (by omega) j rfl (by omega) hj2.1.2 (getD_in hjs hl) (t + 1) ht hr
    · have h1 := List.all_eq_true.1 hc (t + 1) (List.mem_range.2 htlt)
      simp only [Bool.or_eq_true, decide_eq_true_eq] at h1
      rcases h1 with h1 | h1
      · omega
      · obtain ⟨o', ho', e, he, hb, hon⟩ := Region.waitsFor_spec h1
        have : o' = ot := Option.some.inj (ho'.symm.trans hot)
        subst this
        have h2 := hall e he hb
        rw [hon, Nat.add_sub_cancel] at h2
        have h3 := inv.tail t (by omega) (by omega)
        rw [getD_both h3] at h2
        cases h2
theorem wpAny_late {n g q : Nat} {a0 : Act} {Q' : Exit → Act → World → Prop} (hsel : Region.noSelect ops = true) (hs : sinkQ md ops q n = true) (hc : Region.chainB md ops n = true) (hn : n < ops.size) (hD : dsts ops n = true) (hdep : depsB md ops deps n = true)
    (hst : ∀ i v w w', ψ i v w → Below w.heap.size w w' → ψ i v w') (hob : ∀ i, i < n → freeOb P ops C deps ψ own a0 i) (hqn : q < n) (hfq : Region.free md ops (lateL ops n q) q = true) (hrq : (Region.ready md ops (lateL ops n q)).contains q = true) (hQ : ∀ c (dst : Option Tmp) (v : Value) a w, Q' (.panic c) (a.put dst v) w → Q' (.panic c) a w)
    (hlate : ∀ vs w, C w → (∀ d ∈ deps q, ψ d (vs d) w) → ∃ v, (∀ oq, ops[q]? = some oq → oq.guard = none ∧ ∀ w', (execOp (putsL ops (fun k => decide (k < q)) vs a0 q).eval oq).run P w' = .ok (.value v) w') ∧ ψ q v w ∧ own q v = [])
    (hfin : ∀ vs w, C w → (∀ i, i < n → ψ i (vs i) w) → (∀ i j, i < n → j < n → i ≠ j → ∀ b ∈ own i (vs i), b ∉ own j (vs j)) → (∀ i, i < n → ∀ b ∈ own i (vs i), b < w.heap.size) → wpAny P md ops Q' g (firstB ops n) (putsL ops (fun _ => true) vs a0 n) w) :
    ∀ (f : Nat) (listed : Array Bool) (vs : Nat → Value) (a : Act) (w : World), cnt listed n = f → FreeInv md ops n C ψ own a0 listed vs a w → wpAny P md ops Q' (f + g) listed a w
  | 0, listed, vs, a, w, hf, I => by
    have hall := cnt_zero n hf
    have hl : listed = firstB ops n := by
      apply Array.ext_getElem?
      intro k
      by_cases hk : k < ops.size
      · have hk' : k < listed.size := by rw [I.inv.size]; exact hk
        have e1 : (firstB ops n)[k]? = some (decide (k < n)) := by simp [firstB, hk]
        rw [e1, Array.getElem?_eq_getElem hk']
        congr 1
        by_cases hkn : k < n
        · have := hall k hkn
          simp [Array.getD_eq_getD_getElem?, hk'] at this
          simp [hkn, this]
        · have := I.inv.tail k (by omega) hk
          simp [Array.getD_eq_getD_getElem?, hk'] at this
          simp [hkn, this]
      · rw [Array.getElem?_eq_none (by rw [I.inv.size]; omega), Array.getElem?_eq_none (by simp [firstB]; omega)]
    have ha : a = putsL ops (fun _ => true) vs a0 n := I.act.trans (putsL_congr n fun k hk => ⟨hall k hk, fun _ => rfl⟩)
    rw [Nat.zero_add, hl, ha]
    exact hfin vs w I.cls (fun i hi => I.told i hi (hall i hi)) (fun i j hi hj hij => I.sep i j hi hj hij (hall i hi) (hall j hj)) (fun i hi => I.lt i hi (hall i hi))
  | f + 1, listed, vs, a, w, hf, I => by
    rw [show f + 1 + g = (f + g) + 1 by omega]
    obtain ⟨i0, hi0, hu0, hbelow⟩ := cnt_pos (listed := listed) n (by omega)
    have hlt0 : i0 < listed.size := by rw [I.inv.size]; omega
    have both : ∀ k, k < listed.size → listed.getD k true = listed.getD k false := fun k hk => by simp [Array.getD_eq_getD_getElem?, hk]
    have hr0 : i0 ∈ Region.ready md ops listed := by
      obtain ⟨o, ho, h1, _⟩ := depsB_spec hdep hi0
      exact mem_ready.2 ⟨by rw [both i0 hlt0]; exact hu0, o, ho, fun e he hb => hbelow e.on (h1 e he hb)⟩
    have step : ∀ i, i ∈ Region.ready md ops listed → i < n → ∃ o', ops[i]? = some o' ∧ (∀ d ∈ deps i, d < i ∧ listed.getD d false = true) ∧ Agr ops o' a (putsL ops (fun k => decide (k < i)) vs a0 i) ∧
        ∀ v w', C w' → Below w.heap.size w w' → ψ i v w' → (∀ b ∈ own i v, w.heap.size ≤ b ∧ b < w'.heap.size) → wpAny P md ops Q' (f + g) (listed.setIfInBounds i true) (a.put o'.dst v) w' := by
      intro i hi hin
      obtain ⟨hun, oi, hoi, hall⟩ := mem_ready.1 hi
      have hisz : i < listed.size := by rw [I.inv.size]; omega
      have hunf : listed.getD i false = false := by rw [← both i hisz]; exact hun
      obtain ⟨o', ho', hb1, hb2, hb3⟩ := depsB_spec hdep hin
      obtain rfl : o' = oi := by rw [hoi] at ho'; cases ho'; rfl
      have hdl : ∀ d ∈ deps i, d < i ∧ listed.getD d false = true := fun d hd => by
        obtain ⟨h1, e, he, hb, rfl⟩ := hb2 d hd
        exact ⟨h1, hall e he hb⟩
      have hagr : Agr ops o' a (putsL ops (fun k => decide (k < i)) vs a0 i) := by
        rw [I.act, ← putsL_past (L := fun k => decide (k < i)) (vs := vs) (a := a0) n (by omega) (fun k h1 _ => by simp; omega)]
        refine putsL_agr n fun k ok hk hok hne d hd => ?_
        have hkd : k ∉ deps i := fun h => by
          obtain ⟨h1, h2⟩ := hdl k h
          apply hne
          rw [h2]; simp [h1]
        exact noLook_spec (hb3 k ok hk hok hkd) d hd
      refine ⟨o', ho', hdl, hagr, ?_⟩
      intro v w' hC hB hψ hown
      refine wpAny_late hsel hs hc hn hD hdep hst hob hqn hfq hrq hQ hlate hfin f _ (fun k => if k = i then v else vs k) _ w' ?_ ⟨I.inv.set hi hin, hC, ?_, ?_, ?_, ?_⟩
      · have := cnt_set hisz hunf n hin; omega
      · rw [I.act]
        refine (putsL_one hoi hunf (by rw [getD_set hisz, if_pos rfl]) (if_pos rfl) (fun k hk => ⟨by rw [getD_set hisz, if_neg hk], fun _ => if_neg hk⟩) n hin (fun k ok hk hne hok => dsts_spec hD hin hk hne hoi hok)).symm
      · intro k hk hl
        rw [getD_set hisz] at hl
        by_cases he : k = i
        · subst he; simp only [if_true]; exact hψ
        · rw [if_neg he] at hl; simp only [he, if_false]; exact hst _ _ _ _ (I.told k hk hl) hB
      · intro k hk hl b hb
        rw [getD_set hisz] at hl
        by_cases he : k = i
        · subst he; simp only [if_true] at hb; exact (hown b hb).2
        · rw [if_neg he] at hl; simp only [he, if_false] at hb; exact Nat.lt_of_lt_of_le (I.lt k hk hl b hb) hB.size
      · intro k j hk hj hkj hlk hlj b hb
        rw [getD_set hisz] at hlk hlj
        by_cases he : k = i
        · subst he
          simp only [if_true] at hb
          rw [if_neg (fun e => hkj e.symm)] at hlj
          simp only [show j ≠ k from fun e => hkj e.symm, if_false]
          intro hb2
          have := I.lt j hj hlj b hb2
          have := (hown b hb).1
          omega
        · rw [if_neg he] at hlk
          simp only [he, if_false] at hb
          by_cases he2 : j = i
          · subst he2
            simp only [if_true]
            intro hb2
            have := I.lt k hk hlk b hb
            have := (hown b hb2).1
            omega
          · rw [if_neg he2] at hlj
            simp only [he2, if_false]
            exact I.sep k j hk hj hkj hlk hlj b hb
    by_cases hB : ∃ i1, i1 < n ∧ i1 ≠ q ∧ listed.getD i1 false = false
    · obtain ⟨i1, hi1, hne1, hu1⟩ := hB
      refine ⟨fun h => (by rw [h] at hr0; cases hr0), fun i hi => ?_⟩
      have hin : i < n := by
        rcases Nat.lt_or_ge i n with h | h
        · exact h
        · exact absurd hi (tail_waitsQ hs hc hn I.inv _ i1 rfl hi1 hne1 (by rw [both i1 (by rw [I.inv.size]; omega)]; exact hu1) i h)
      obtain ⟨o', hoi, hdl, hagr, next⟩ := step i hi hin
      have hOb := hob i hin
      unfold freeOb at hOb
      simp only [hoi] at hOb
      have hOb := hOb vs w I.cls (fun d hd => I.told d (by have := (hdl d hd).1; omega) (hdl d hd).2)
      unfold wpOp
      simp only [hoi]
      rw [← hagr.wanted, ← hagr.exec (fun cs b => Region.noSelect_spec hsel i o' cs b hoi)] at hOb
      by_cases hw : Region.wanted o' (yielded ops a.tmps) = true
      · simp only [hw, if_true] at hOb ⊢
        exact .inl (wp_of_free hOb fun v w' ⟨h1, h2, h3, h4⟩ => next v w' h1 h2 h3 h4)
      · simp only [hw, if_false, Bool.false_eq_true] at hOb ⊢
        exact next undef w I.cls (Below.refl _ _) hOb.1 (fun b hb => by rw [hOb.2] at hb; cases hb)

    · have hall' : ∀ k, k < n → k ≠ q → listed.getD k false = true := fun k hk hne => by
        cases hv : listed.getD k false with
        | true => rfl
        | false => exact absurd ⟨k, hk, hne, hv⟩ hB
      have huq : listed.getD q false = false := by
        have : i0 = q := Classical.byContradiction fun h => hB ⟨i0, hi0, h, hu0⟩
        rw [← this]; exact hu0
      have hl : listed = lateL ops n q := by
        apply Array.ext_getElem?
        intro k
        by_cases hk : k < ops.size
        · have hk' : k < listed.size := by rw [I.inv.size]; exact hk
          have e1 : (lateL ops n q)[k]? = some (decide (k < n ∧ k ≠ q)) := by simp [lateL, hk]
          rw [e1, Array.getElem?_eq_getElem hk']
          congr 1
          by_cases hkn : k < n
          · by_cases hkq : k = q
            · have := huq
              rw [← hkq] at this
              simp [Array.getD_eq_getD_getElem?, hk'] at this
              simp [hkq] at this ⊢
              exact this
            · have := hall' k hkn hkq
              simp [Array.getD_eq_getD_getElem?, hk'] at this
              simp [hkn, hkq, this]
          · have := I.inv.tail k (by omega) hk
            simp [Array.getD_eq_getD_getElem?, hk'] at this
            simp [hkn, this]
        · rw [Array.getElem?_eq_none (by rw [I.inv.size]; omega), Array.getElem?_eq_none (by simp [lateL]; omega)]
      have hrq' : (Region.ready md ops listed).contains q = true := by rw [hl]; exact hrq
      obtain ⟨o', hoi, hdl, hagr, next⟩ := step q (by simpa using hrq') hqn
      obtain ⟨v, hv, hψ, hown⟩ := hlate vs w I.cls (fun d hd => I.told d (by have := (hdl d hd).1; omega) (hdl d hd).2)
      obtain ⟨hg, hrun⟩ := hv o' hoi
      have hnx := next v w I.cls (Below.refl _ _) hψ (fun b hb => by rw [hown] at hb; cases hb)
      refine wpAny_take hoi hsel (by rw [hl]; exact hfq) hrq' (fun c a w => hQ c o'.dst v a w) (.inl ⟨by simp [Region.wanted, hg], fun w' => ?_⟩) hnx
      rw [hagr.exec (fun cs b => Region.noSelect_spec hsel q o' cs b hoi)]
      exact hrun w'

/-! ### Laid out in the text's order -/
def obsQ (P : Program) (ops : Array Oper) (C : World → Prop) (deps : Nat → List Nat) (ψ : Nat → Value → World → Prop) (own : Nat → Value → List Nat) (q : Nat) (vs : Nat → Value) (F : Act → Prop) : List Oper → Nat → Act → Prop
  | [], _, a => F a
  | o :: rest, k, a => (∀ w, C w → (∀ d ∈ deps k, ψ d (vs d) w) → if Region.wanted o (yielded ops a.tmps) then freeUpon P (freePost C ψ own k w) ((execOp a.eval o).run P w) else ψ k undef w ∧ own k undef = []) ∧
      (k = q → ∀ w, C w → (∀ d ∈ deps k, ψ d (vs d) w) → ∃ v, (o.guard = none ∧ ∀ w', (execOp a.eval o).run P w' = .ok (.value v) w') ∧ ψ k v w ∧ own k v = []) ∧
      obsQ P ops C deps ψ own q vs F rest (k + 1) (a.put o.dst (vs k))
theorem obsQ_spec {q : Nat} {vs : Nat → Value} {F : Act → Prop} {a0 : Act} : ∀ (l : List Oper) (k : Nat), (∀ j, j < l.length → l[j]? = ops[k + j]?) → obsQ P ops C deps ψ own q vs F l k (putsL ops (fun _ => true) vs a0 k) →
    (∀ i, k ≤ i → i < k + l.length → ∃ oi, ops[i]? = some oi ∧ (∀ w, C w → (∀ d ∈ deps i, ψ d (vs d) w) → if Region.wanted oi (yielded ops (putsL ops (fun _ => true) vs a0 i).tmps) then freeUpon P (freePost C ψ own i w) ((execOp (putsL ops (fun _ => true) vs a0 i).eval oi).run P w) else ψ i undef w ∧ own i undef = []) ∧
        (i = q → ∀ w, C w → (∀ d ∈ deps i, ψ d (vs d) w) → ∃ v, (oi.guard = none ∧ ∀ w', (execOp (putsL ops (fun _ => true) vs a0 i).eval oi).run P w' = .ok (.value v) w') ∧ ψ i v w ∧ own i v = [])) ∧
      F (putsL ops (fun _ => true) vs a0 (k + l.length))
  | [], k, _, h => ⟨fun i h1 h2 => absurd h2 (by simp; omega), h⟩
  | o :: l, k, hl, h => by
    have h0 : ops[k]? = some o := by simpa using (hl 0 (by simp)).symm
    have e : putsL ops (fun _ => true) vs a0 (k + 1) = (putsL ops (fun _ => true) vs a0 k).put o.dst (vs k) := by simp only [putsL, if_true, h0]
    obtain ⟨h1, h1q, h2⟩ := h
    rw [← e] at h2
    obtain ⟨g1, g2⟩ := obsQ_spec l (k + 1) (fun j hj => by have := hl (j + 1) (by simp; omega); simpa [Nat.add_assoc, Nat.add_comm 1 j] using this) h2
    refine ⟨fun i hi1 hi2 => ?_, ?_⟩
    · by_cases hik : i = k
      · subst hik; exact ⟨o, h0, h1, h1q⟩
      · exact g1 i (by omega) (by simp at hi2; omega)
    · rw [show k + (o :: l).length = k + 1 + l.length by simp; omega]; exact g2
def lateB (ops : Array Oper) (deps : Nat → List Nat) (q n : Nat) : Bool :=
  Region.noSelect ops && sinkQ .any ops q n && Region.chainB .any ops n && decide (n < ops.size) && dsts ops n && depsB .any ops deps n && Region.seqB .any ops (ops.size - n) n (firstB ops n) && decide (q < n) && Region.free .any ops (lateL ops n q) q && (Region.ready .any ops (lateL ops n q)).contains q
theorem wp_region_late {id : Nat} {Q : Exit → Act → World → Prop} {a : Act} {w : World} {l : List Oper} (q n : Nat) (C : World → Prop) (deps : Nat → List Nat) (ψ : Nat → Value → World → Prop) (own : Nat → Value → List Nat)
    (hm : P.follows .mixedOrders = true) (hB : lateB l.toArray deps q n = true) (hC : C w.drew) (hst : ∀ i v w w', ψ i v w → Below w.heap.size w w' → ψ i v w') (hQ : ∀ c (dst : Option Tmp) (v : Value) a w, Q (.panic c) (a.put dst v) w → Q (.panic c) a w)
    (h : ∀ vs, obsQ P l.toArray C deps ψ own q vs (fun a' => ∀ w', C w' → (∀ i, i < n → ψ i (vs i) w') → (∀ i j, i < n → j < n → i ≠ j → ∀ b ∈ own i (vs i), b ∉ own j (vs j)) → (∀ i, i < n → ∀ b ∈ own i (vs i), b < w'.heap.size) → wpList P l.toArray Q (l.drop n) a' w') (l.take n) 0 a) :
    (Code.region id l.toArray true).wp P Q a w := by
  simp only [lateB, Bool.and_eq_true, decide_eq_true_eq] at hB
  obtain ⟨⟨⟨⟨⟨⟨⟨⟨⟨hsel, hs⟩, hc⟩, hn⟩, hD⟩, hdep⟩, hseq⟩, hqn⟩, hfq⟩, hrq⟩ := hB
  have hn' : n < l.length := by simpa using hn
  have htl : (l.take n).length = n := by simp; omega
  have key := fun vs => obsQ_spec (P := P) (ops := l.toArray) (a0 := a) (l.take n) 0 (fun j hj => by rw [htl] at hj; simp [hj]) (h vs)
  have ecut : ∀ vs k, putsL l.toArray (fun j => decide (j < k)) vs a k = putsL l.toArray (fun _ => true) vs a k := fun vs k => putsL_congr k fun j hj => ⟨by simp [hj], fun _ => rfl⟩
  have inv0 : HeadInv .any l.toArray n (Array.replicate l.toArray.size false) :=
    ⟨by simp, fun j oj _ hl => (by rw [getD_replicate_false] at hl; cases hl), fun t _ ht => getD_in (by simpa using ht) (getD_replicate_false _ _)⟩
  have hc0 : ∀ m, cnt (Array.replicate l.toArray.size false) m = m := by
    intro m
    induction m with
    | zero => rfl
    | succ m ih => simp only [cnt]; rw [ih, getD_replicate_false]; simp
  have hp0 : ∀ m, putsL l.toArray (fun k => (Array.replicate l.toArray.size false).getD k false) (fun _ => undef) a m = a := by
    intro m
    induction m with
    | zero => rfl
    | succ m ih => simp only [putsL]; rw [getD_replicate_false]; simp only [Bool.false_eq_true, if_false]; exact ih
  refine wp_region_any hm ?_
  have hdl : (l.drop n).length = l.toArray.size - n := by simp
  have H := wpAny_late (P := P) (md := .any) (g := l.toArray.size - n) (Q' := Q) hsel hs hc hn hD hdep hst
    (fun i hi => by
      unfold freeOb
      have ho : l.toArray[i]? = some (l[i]'(by omega)) := by simp [List.getElem?_eq_getElem (show i < l.length by omega)]
      rw [ho]
      intro vs w' hC' hd
      obtain ⟨oi, ho', h1, _⟩ := (key vs).1 i (Nat.zero_le _) (by rw [htl]; omega)
      rw [ho] at ho'
      cases ho'
      rw [ecut]
      exact h1 w' hC' hd) hqn hfq hrq hQ
    (fun vs w' hC' hd => by
      obtain ⟨oi, ho', _, h1⟩ := (key vs).1 q (Nat.zero_le _) (by rw [htl]; omega)
      obtain ⟨v, hv, hψ, hown⟩ := h1 rfl w' hC' hd
      refine ⟨v, fun oq hoq => ?_, hψ, hown⟩
      rw [ho'] at hoq
      cases hoq
      rw [ecut]
      exact hv)
    (fun vs w' h1 h2 h3 h4 => by
      have := (key vs).2
      rw [Nat.zero_add, htl] at this
      have := wpAny_of_seq (md := .any) (Q' := Q) (l.drop n) n (firstB l.toArray n) _ w' (fun j => by simp [List.getElem?_drop]) (by rw [hdl]; exact hseq) (this w' h1 h2 h3 h4)
      rwa [hdl] at this)
    n (Array.replicate l.toArray.size false) (fun _ => undef) a w.drew (hc0 n)
    ⟨inv0, hC, (hp0 n).symm, fun i _ h => (by rw [getD_replicate_false] at h; cases h), fun i _ h => (by rw [getD_replicate_false] at h; cases h), fun i j _ _ _ h => (by rw [getD_replicate_false] at h; cases h)⟩
  rw [show n + (l.toArray.size - n) = l.toArray.size by omega] at H
  exact H
theorem obq_step {q : Nat} {vs : Nat → Value} {F : Act → Prop} {o : Oper} {rest : List Oper} {k : Nat} {a : Act} (hg : o.guard = none) (hk : k ≠ q)
    (h1 : ∀ w, C w → (∀ d ∈ deps k, ψ d (vs d) w) → freeUpon P (freePost C ψ own k w) ((execOp a.eval o).run P w)) (h2 : obsQ P ops C deps ψ own q vs F rest (k + 1) (a.put o.dst (vs k))) : obsQ P ops C deps ψ own q vs F (o :: rest) k a :=
  ⟨fun w hw hd => by rw [if_pos (by simp [Region.wanted, hg])]; exact h1 w hw hd, fun h => absurd h hk, h2⟩
theorem obq_late {q : Nat} {vs : Nat → Value} {F : Act → Prop} {o : Oper} {rest : List Oper} {a : Act} (hg : o.guard = none)
    (h1 : ∀ w, C w → (∀ d ∈ deps q, ψ d (vs d) w) → ∃ v, (∀ w', (execOp a.eval o).run P w' = .ok (.value v) w') ∧ ψ q v w ∧ own q v = []) (h2 : obsQ P ops C deps ψ own q vs F rest (q + 1) (a.put o.dst (vs q))) : obsQ P ops C deps ψ own q vs F (o :: rest) q a :=
  ⟨fun w hw hd => by
    rw [if_pos (by simp [Region.wanted, hg])]
    obtain ⟨v, hv, hψ, hown⟩ := h1 w hw hd
    rw [hv w]
    have : freePost C ψ own q w v w := ⟨hw, Below.refl _ _, hψ, fun b hb => by rw [hown] at hb; cases hb⟩
    simpa only [freeUpon_value_eq] using this, fun _ w hw hd => let ⟨v, hv, hψ, hown⟩ := h1 w hw hd; ⟨v, ⟨hg, hv⟩, hψ, hown⟩, h2⟩
theorem obq_end {q : Nat} {vs : Nat → Value} {F : Act → Prop} {k : Nat} {a : Act} (h : F a) : obsQ P ops C deps ψ own q vs F [] k a := h
attribute [irreducible] obsQ
end
end Go.Proofs.Ytapilgbbkbfcbaa
