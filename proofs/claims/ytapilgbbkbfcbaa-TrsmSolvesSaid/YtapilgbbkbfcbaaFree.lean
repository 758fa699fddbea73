/- Regions whose order is open, in which operations make memory: each operation is looked at once; what it leaves is told by a word on its value that lasts; what it makes is new. Then a tail in forced order. No condition. -/
import Derived.Test.YtapilgbbkbfcbaaCalm
import Derived.Below
import Derived.StillTail
import Derived.Attr
namespace Go.Proofs.Ytapilgbbkbfcbaa
open Go Go.RowKit

section
variable {P : Program} {ops : Array Oper} {md : Region.Mode}

/-- Values are put into the slots of those that are listed. -/
def putsL (ops : Array Oper) (L : Nat → Bool) (vs : Nat → Value) (a : Act) : Nat → Act
  | 0 => a
  | k + 1 => if L k then (match ops[k]? with | some o => (putsL ops L vs a k).put o.dst (vs k) | none => putsL ops L vs a k) else putsL ops L vs a k

theorem putsL_congr {L L' : Nat → Bool} {vs vs' : Nat → Value} {a : Act} : ∀ n, (∀ k, k < n → L k = L' k ∧ (L k = true → vs k = vs' k)) → putsL ops L vs a n = putsL ops L' vs' a n
  | 0, _ => rfl
  | n + 1, h => by
    have ih := putsL_congr (a := a) n (fun k hk => h k (by omega))
    obtain ⟨h1, h2⟩ := h n (by omega)
    simp only [putsL]
    rw [← h1, ih]
    by_cases hl : L n = true
    · rw [h2 hl]
    · simp [hl]

/-- One more. -/
theorem putsL_one {L L' : Nat → Bool} {vs vs' : Nat → Value} {a : Act} {i : Nat} {oi : Oper} (hi : ops[i]? = some oi) {v : Value} (hLi : L i = false) (hLi' : L' i = true) (hvi : vs' i = v)
    (hL : ∀ k, k ≠ i → L' k = L k ∧ (L k = true → vs' k = vs k)) : ∀ n, i < n → (∀ k ok, k < n → k ≠ i → ops[k]? = some ok → ∀ d, oi.dst = some d → ok.dst ≠ some d) → putsL ops L' vs' a n = (putsL ops L vs a n).put oi.dst v
  | n + 1, hn, hd => by
    simp only [putsL]
    by_cases hni : i = n
    · subst hni
      have e : putsL ops L' vs' a i = putsL ops L vs a i := (putsL_congr i (fun k hk => ⟨(hL k (by omega)).1.symm, fun h => ((hL k (by omega)).2 h).symm⟩)).symm
      simp only [hLi', hLi, hi, if_true, e, hvi, Bool.false_eq_true, if_false]
    · have ih := putsL_one (a := a) hi hLi hLi' hvi hL n (by omega) (fun k ok hk => hd k ok (by omega))
      obtain ⟨h1, h2⟩ := hL n (fun e => hni e.symm)
      rw [h1]
      by_cases hl : L n = true
      · simp only [hl, if_true]
        cases ho : ops[n]? with
        | none => simp only; exact ih
        | some o =>
          simp only
          rw [ih, h2 hl]
          exact Act.put_comm _ v (vs n) (fun d hd' => hd n o (by omega) (fun e => hni e.symm) ho d hd')
      · simp only [hl, if_false]; exact ih

/-- Frames that agree in what an operation looks at. -/
def Agr (ops : Array Oper) (o : Oper) (a a' : Act) : Prop := (∀ d, d ∈ o.looksAt ops → a.tmps[d]? = a'.tmps[d]?)
theorem Agr.exec {o : Oper} {a a' : Act} (h : Agr ops o a a') (hs : ∀ cs b, o.op ≠ .select cs b) : execOp a.eval o = execOp a'.eval o :=
  execOp_congr o hs fun x hx => by
    cases x with
    | tmp t =>
      have := h t (List.mem_append_left _ (List.mem_filterMap.2 ⟨.tmp t, by simpa using hx, rfl⟩))
      simp only [Act.eval, Array.getD_eq_getD_getElem?, this]
    | _ => rfl
theorem Agr.wanted {o : Oper} {a a' : Act} (h : Agr ops o a a') : Region.wanted o (yielded ops a.tmps) = Region.wanted o (yielded ops a'.tmps) := by
  unfold Region.wanted
  cases hg : o.guard with
  | none => rfl
  | some gw =>
    obtain ⟨g, want⟩ := gw
    have hy : yielded ops a.tmps g = yielded ops a'.tmps g := by
      unfold yielded
      cases ht : (ops[g]?).bind (·.dst) with
      | none => rfl
      | some t =>
        simp only [Option.bind_some, h t (List.mem_append_right _ (by simp [hg, ht]))]
    simp only [hy]
theorem putsL_agr {o : Oper} {L L' : Nat → Bool} {vs : Nat → Value} {a : Act} : ∀ n, (∀ k ok, k < n → ops[k]? = some ok → L k ≠ L' k → ∀ d, ok.dst = some d → d ∉ o.looksAt ops) → Agr ops o (putsL ops L vs a n) (putsL ops L' vs a n)
  | 0, _ => fun _ _ => rfl
  | n + 1, h => by
    have ih := putsL_agr (a := a) (vs := vs) n (fun k ok hk => h k ok (by omega))
    have one : ∀ (x y : Act) (d : Option Tmp) (v : Value), Agr ops o x y → (∀ t, d = some t → t ∉ o.looksAt ops) → Agr ops o (x.put d v) y ∧ Agr ops o x (y.put d v) := by
      intro x y d v hxy hd
      cases d with
      | none => exact ⟨hxy, hxy⟩
      | some t =>
        have hne : ∀ e, e ∈ o.looksAt ops → t ≠ e := fun e he e' => hd t rfl (e' ▸ he)
        exact ⟨fun e he => by simp only [Act.put]; rw [Array.getElem?_setIfInBounds_ne (hne e he)]; exact hxy e he, fun e he => by simp only [Act.put]; rw [Array.getElem?_setIfInBounds_ne (hne e he)]; exact hxy e he⟩
    have two : ∀ (x y : Act) (d : Option Tmp) (v : Value), x.tmps.size = y.tmps.size → Agr ops o x y → Agr ops o (x.put d v) (y.put d v) := by
      intro x y d v hsz hxy
      cases d with
      | none => exact hxy
      | some t =>
        intro e he
        simp only [Act.put, Array.getElem?_setIfInBounds]
        have := hxy e he
        rw [this, hsz]
    have hsize : ∀ (L : Nat → Bool) (m : Nat), (putsL ops L vs a m).tmps.size = a.tmps.size := by
      intro L m
      induction m with
      | zero => rfl
      | succ m ihm =>
        simp only [putsL]
        split
        · split
          · rename_i o' _
            cases o'.dst <;> simp [Act.put, ihm]
          · exact ihm
        · exact ihm
    simp only [putsL]
    by_cases h1 : L n = true <;> by_cases h2 : L' n = true
    · simp only [h1, h2, if_true]
      split
      · exact two _ _ _ _ ((hsize _ _).trans (hsize _ _).symm) ih
      · exact ih
    · simp only [h1, h2, if_true, if_false, Bool.false_eq_true]
      cases ho : ops[n]? with
      | none => exact ih
      | some ok => exact (one _ _ _ _ ih (h n ok (by omega) ho (by simp [h1, h2]))).1
    · simp only [h1, h2, if_true, if_false, Bool.false_eq_true]
      cases ho : ops[n]? with
      | none => exact ih
      | some ok => exact (one _ _ _ _ ih (h n ok (by omega) ho (by simp [h1, h2]))).2
    · simp only [h1, h2, if_false, Bool.false_eq_true]
      exact ih

/-- What is asked of an operation's run. -/
def freeUpon (P : Program) (Post : Value → World → Prop) : Result Next → Prop
  | .ok (.value u) w' => Post u w'
  | .ok .skip w' => Post undef w'
  | .ok (.enter f args) w' => Calls P f args w' (fun e w'' => ∃ u, e = .returned u ∧ Post u w'')
  | _ => False
theorem wp_of_free {o : Oper} {a : Act} {K : Act → World → Prop} {Q : Exit → Act → World → Prop} {w : World} {Post : Value → World → Prop} (h : freeUpon P Post ((execOp a.eval o).run P w)) (hK : ∀ v w', Post v w' → K (a.put o.dst v) w') : o.wp P a w K Q := by
  unfold Oper.wp
  generalize (execOp a.eval o).run P w = r at *
  cases r with
  | ok n w' =>
    cases n <;> simp only [freeUpon] at h <;> simp only [Oper.upon]
    case value u => exact hK _ _ h
    case skip => exact hK _ _ h
    case enter f args => exact h.mono fun e w'' ⟨u, he, hu⟩ => by subst he; exact hK _ _ hu
  | halt x w' => simp only [freeUpon] at h

/-- Operation x doesn't look at y's slot. -/
def noLook (ops : Array Oper) (x y : Oper) : Bool := match y.dst with | some d => !(x.looksAt ops).contains d | none => true
theorem noLook_spec {x y : Oper} (h : noLook ops x y = true) : ∀ d, y.dst = some d → d ∉ x.looksAt ops := by
  intro d hd
  unfold noLook at h
  rw [hd] at h
  simpa using h
def dsts (ops : Array Oper) (n : Nat) : Bool := (List.range n).all fun i => (List.range n).all fun j => i == j || (match (ops[i]?).bind (·.dst), (ops[j]?).bind (·.dst) with | some d, some e => d != e | _, _ => true)
theorem dsts_spec {n : Nat} (h : dsts ops n = true) {i j : Nat} {oi oj : Oper} (hi : i < n) (hj : j < n) (hne : j ≠ i) (ei : ops[i]? = some oi) (ej : ops[j]? = some oj) : ∀ d, oi.dst = some d → oj.dst ≠ some d := by
  intro d hd hd'
  have h1 := List.all_eq_true.1 h i (List.mem_range.2 hi)
  have h2 := List.all_eq_true.1 h1 j (List.mem_range.2 hj)
  simp only [ei, ej, Option.bind_some, hd, hd', bne_self_eq_false, Bool.or_false, beq_iff_eq] at h2
  exact hne h2.symm
/-- Which ones an operation may lean on: those that it waits for. -/
def depsB (md : Region.Mode) (ops : Array Oper) (deps : Nat → List Nat) (n : Nat) : Bool :=
  (List.range n).all fun i => match ops[i]? with
    | none => false
    | some o => (o.after.all fun e => !Region.binds md e || decide (e.on < i)) && ((deps i).all fun d => decide (d < i) && o.after.any fun e => Region.binds md e && e.on == d) &&
        (List.range n).all fun j => (deps i).contains j || (match ops[j]? with | some oj => noLook ops o oj | none => true)
theorem depsB_spec {deps : Nat → List Nat} {n i : Nat} (h : depsB md ops deps n = true) (hi : i < n) : ∃ o, ops[i]? = some o ∧ (∀ e ∈ o.after, Region.binds md e = true → e.on < i) ∧
    (∀ d ∈ deps i, d < i ∧ ∃ e ∈ o.after, Region.binds md e = true ∧ e.on = d) ∧ (∀ j oj, j < n → ops[j]? = some oj → j ∉ deps i → noLook ops o oj = true) := by
  have h1 := List.all_eq_true.1 h i (List.mem_range.2 hi)
  cases ho : ops[i]? with
  | none => rw [ho] at h1; cases h1
  | some o =>
    rw [ho] at h1
    simp only [Bool.and_eq_true] at h1
    obtain ⟨⟨h1, h2⟩, h3⟩ := h1
    refine ⟨o, rfl, fun e he hb => ?_, fun d hd => ?_, fun j oj hj ej hn => ?_⟩
    · have := Array.all_eq_true'.1 h1 e he
      simpa [hb] using this
    · have := List.all_eq_true.1 h2 d hd
      simp only [Bool.and_eq_true, decide_eq_true_eq] at this
      obtain ⟨x, hx, hx2⟩ := Array.any_eq_true'.1 this.2
      simp only [Bool.and_eq_true, beq_iff_eq] at hx2
      exact ⟨this.1, x, hx, hx2.1, hx2.2⟩
    · have := List.all_eq_true.1 h3 j (List.mem_range.2 hj)
      simp only [ej, Bool.or_eq_true, List.contains_iff_mem] at this
      rcases this with h | h
      · exact absurd h hn
      · exact h
def firstB (ops : Array Oper) (n : Nat) : Array Bool := (Array.range ops.size).map fun k => decide (k < n)

def cnt (listed : Array Bool) : Nat → Nat
  | 0 => 0
  | k + 1 => cnt listed k + if listed.getD k false then 0 else 1
theorem getD_set {listed : Array Bool} {i k : Nat} (hi : i < listed.size) : (listed.setIfInBounds i true).getD k false = (if k = i then true else listed.getD k false) := by
  by_cases h : k = i
  · subst h; rw [if_pos rfl]; simp [Array.getD_eq_getD_getElem?, hi]
  · rw [if_neg h]; simp [Array.getD_eq_getD_getElem?, Array.getElem?_setIfInBounds_ne (fun e => h e.symm)]
theorem cnt_set {listed : Array Bool} {i : Nat} (hi : i < listed.size) (hu : listed.getD i false = false) : ∀ n, i < n → cnt (listed.setIfInBounds i true) n + 1 = cnt listed n
  | n + 1, h => by
    have same : ∀ m, m ≤ i → cnt (listed.setIfInBounds i true) m = cnt listed m := by
      intro m hm
      induction m with
      | zero => rfl
      | succ m ih =>
        have e : (listed.setIfInBounds i true).getD m false = listed.getD m false := (getD_set hi).trans (if_neg (by omega))
        simp only [cnt]; rw [ih (by omega), e]
    simp only [cnt]
    by_cases he : i = n
    · subst he
      have e : (listed.setIfInBounds i true).getD i false = true := (getD_set hi).trans (if_pos rfl)
      rw [same i (Nat.le_refl _), e, hu]
      simp
    · have := cnt_set hi hu n (by omega)
      have e : (listed.setIfInBounds i true).getD n false = listed.getD n false := (getD_set hi).trans (if_neg (fun e => he e.symm))
      rw [e]
      omega
theorem cnt_zero {listed : Array Bool} : ∀ n, cnt listed n = 0 → ∀ k, k < n → listed.getD k false = true
  | n + 1, h, k, hk => by
    simp only [cnt] at h
    by_cases he : k = n
    · subst he
      cases hv : listed.getD k false with
      | true => rfl
      | false => rw [hv] at h; simp at h
    · exact cnt_zero n (by omega) k (by omega)
theorem cnt_pos {listed : Array Bool} : ∀ n, cnt listed n ≠ 0 → ∃ i, i < n ∧ listed.getD i false = false ∧ ∀ j, j < i → listed.getD j false = true
  | n + 1, h => by
    by_cases h0 : cnt listed n = 0
    · refine ⟨n, by omega, ?_, cnt_zero n h0⟩
      cases hv : listed.getD n false with
      | false => rfl
      | true => simp only [cnt, h0, hv] at h; simp at h
    · obtain ⟨i, h1, h2, h3⟩ := cnt_pos n h0
      exact ⟨i, by omega, h2, h3⟩

variable {C : World → Prop} {deps : Nat → List Nat} {ψ : Nat → Value → World → Prop} {own : Nat → Value → List Nat}
/-- What is known on the way. -/
structure FreeInv (md : Region.Mode) (ops : Array Oper) (n : Nat) (C : World → Prop) (ψ : Nat → Value → World → Prop) (own : Nat → Value → List Nat) (a0 : Act) (listed : Array Bool) (vs : Nat → Value) (a : Act) (w : World) : Prop where
  inv : HeadInv md ops n listed
  cls : C w
  act : a = putsL ops (fun k => listed.getD k false) vs a0 n
  told : ∀ i, i < n → listed.getD i false = true → ψ i (vs i) w
  lt : ∀ i, i < n → listed.getD i false = true → ∀ b ∈ own i (vs i), b < w.heap.size
  sep : ∀ i j, i < n → j < n → i ≠ j → listed.getD i false = true → listed.getD j false = true → ∀ b ∈ own i (vs i), b ∉ own j (vs j)

def freeOb (P : Program) (ops : Array Oper) (C : World → Prop) (deps : Nat → List Nat) (ψ : Nat → Value → World → Prop) (own : Nat → Value → List Nat) (a0 : Act) (i : Nat) : Prop :=
  match ops[i]? with
  | none => True
  | some oi => ∀ (vs : Nat → Value) (w : World), C w → (∀ d ∈ deps i, ψ d (vs d) w) →
      if Region.wanted oi (yielded ops (putsL ops (fun k => decide (k < i)) vs a0 i).tmps) then
        freeUpon P (fun v w' => C w' ∧ Below w.heap.size w w' ∧ ψ i v w' ∧ ∀ b ∈ own i v, w.heap.size ≤ b ∧ b < w'.heap.size) ((execOp (putsL ops (fun k => decide (k < i)) vs a0 i).eval oi).run P w)
      else ψ i undef w ∧ own i undef = []

theorem putsL_past {L : Nat → Bool} {vs : Nat → Value} {a : Act} {i : Nat} : ∀ n, i ≤ n → (∀ k, i ≤ k → k < n → L k = false) → putsL ops L vs a n = putsL ops L vs a i
  | 0, h, _ => by
    have h0 : i = 0 := by omega
    rw [h0]
  | n + 1, h, hL => by
    by_cases he : i = n + 1
    · subst he; rfl
    · simp only [putsL]
      rw [hL n (by omega) (by omega)]
      simp only [Bool.false_eq_true, if_false]
      exact putsL_past n (by omega) (fun k h1 h2 => hL k h1 (by omega))

theorem wpAny_free {n g : Nat} {a0 : Act} {Q' : Exit → Act → World → Prop} (hsel : Region.noSelect ops = true) (hs : Region.sinkB md ops n = true) (hc : Region.chainB md ops n = true) (hn : n < ops.size) (hD : dsts ops n = true) (hdep : depsB md ops deps n = true)
    (hst : ∀ i v w w', ψ i v w → Below w.heap.size w w' → ψ i v w') (hob : ∀ i, i < n → freeOb P ops C deps ψ own a0 i)
    (hfin : ∀ vs w, C w → (∀ i, i < n → ψ i (vs i) w) → (∀ i j, i < n → j < n → i ≠ j → ∀ b ∈ own i (vs i), b ∉ own j (vs j)) → (∀ i, i < n → ∀ b ∈ own i (vs i), b < w.heap.size) → wpAny P md ops Q' g (firstB ops n) (putsL ops (fun _ => true) vs a0 n) w) :
    ∀ (f : Nat) (listed : Array Bool) (vs : Nat → Value) (a : Act) (w : World), cnt listed n = f → FreeInv md ops n C ψ own a0 listed vs a w → wpAny P md ops Q' (f + g) listed a w
  | 0, listed, vs, a, w, hf, I => by
    have hall := cnt_zero n hf
    have hl : listed = firstB ops n := by
      apply Array.ext_getElem?
      intro k
      by_cases hk : k < ops.size
      · have hk' : k < listed.size := by rw [I.inv.size]; exact hk
        have e1 : (firstB ops n)[k]? = some (decide (k < n)) := by simp [firstB, hk]
        rw [e1, Array.getElem?_eq_getElem hk']
        congr 1
        by_cases hkn : k < n
        · have := hall k hkn
          simp [Array.getD_eq_getD_getElem?, hk'] at this
          simp [hkn, this]
        · have := I.inv.tail k (by omega) hk
          simp [Array.getD_eq_getD_getElem?, hk'] at this
          simp [hkn, this]
      · rw [Array.getElem?_eq_none (by rw [I.inv.size]; omega), Array.getElem?_eq_none (by simp [firstB]; omega)]
    have ha : a = putsL ops (fun _ => true) vs a0 n := I.act.trans (putsL_congr n fun k hk => ⟨hall k hk, fun _ => rfl⟩)
    rw [Nat.zero_add, hl, ha]
    exact hfin vs w I.cls (fun i hi => I.told i hi (hall i hi)) (fun i j hi hj hij => I.sep i j hi hj hij (hall i hi) (hall j hj)) (fun i hi => I.lt i hi (hall i hi))
  | f + 1, listed, vs, a, w, hf, I => by
    rw [show f + 1 + g = (f + g) + 1 by omega]
    obtain ⟨i0, hi0, hu0, hbelow⟩ := cnt_pos (listed := listed) n (by omega)
    have hlt0 : i0 < listed.size := by rw [I.inv.size]; omega
    have both : ∀ k, k < listed.size → listed.getD k true = listed.getD k false := fun k hk => by simp [Array.getD_eq_getD_getElem?, hk]
    have hr0 : i0 ∈ Region.ready md ops listed := by
      obtain ⟨o, ho, h1, _⟩ := depsB_spec hdep hi0
      exact mem_ready.2 ⟨by rw [both i0 hlt0]; exact hu0, o, ho, fun e he hb => hbelow e.on (h1 e he hb)⟩
    refine ⟨fun h => (by rw [h] at hr0; cases hr0), fun i hi => ?_⟩
    have hin : i < n := by
      rcases Nat.lt_or_ge i n with h | h
      · exact h
      · exact absurd hi (tail_waits hs hc hn I.inv _ i0 rfl hi0 (by rw [both i0 hlt0]; exact hu0) i h)
    obtain ⟨hun, oi, hoi, hall⟩ := mem_ready.1 hi
    have hisz : i < listed.size := by rw [I.inv.size]; omega
    have hunf : listed.getD i false = false := by rw [← both i hisz]; exact hun
    obtain ⟨o', ho', hb1, hb2, hb3⟩ := depsB_spec hdep hin
    obtain rfl : o' = oi := by rw [hoi] at ho'; cases ho'; rfl
    have hdl : ∀ d ∈ deps i, d < i ∧ listed.getD d false = true := fun d hd => by
      obtain ⟨h1, e, he, hb, rfl⟩ := hb2 d hd
      exact ⟨h1, hall e he hb⟩
    have hOb := hob i hin
    unfold freeOb at hOb
    simp only [hoi] at hOb
    have hOb := hOb vs w I.cls (fun d hd => I.told d (by have := (hdl d hd).1; omega) (hdl d hd).2)
    have hagr : Agr ops o' a (putsL ops (fun k => decide (k < i)) vs a0 i) := by
      rw [I.act, ← putsL_past (L := fun k => decide (k < i)) (vs := vs) (a := a0) n (by omega) (fun k h1 _ => by simp; omega)]
      refine putsL_agr n fun k ok hk hok hne d hd => ?_
      have hkd : k ∉ deps i := fun h => by
        obtain ⟨h1, h2⟩ := hdl k h
        apply hne
        rw [h2]; simp [h1]
      exact noLook_spec (hb3 k ok hk hok hkd) d hd
    have next : ∀ v w', C w' → Below w.heap.size w w' → ψ i v w' → (∀ b ∈ own i v, w.heap.size ≤ b ∧ b < w'.heap.size) → wpAny P md ops Q' (f + g) (listed.setIfInBounds i true) (a.put o'.dst v) w' := by
      intro v w' hC hB hψ hown
      refine wpAny_free hsel hs hc hn hD hdep hst hob hfin f _ (fun k => if k = i then v else vs k) _ w' ?_ ⟨I.inv.set hi hin, hC, ?_, ?_, ?_, ?_⟩
      · have := cnt_set hisz hunf n hin; omega
      · rw [I.act]
        refine (putsL_one hoi hunf (by rw [getD_set hisz, if_pos rfl]) (if_pos rfl) (fun k hk => ⟨by rw [getD_set hisz, if_neg hk], fun _ => if_neg hk⟩) n hin (fun k ok hk hne hok => dsts_spec hD hin hk hne hoi hok)).symm
      · intro k hk hl
        rw [getD_set hisz] at hl
        by_cases he : k = i
        · subst he; simp only [if_true]; exact hψ
        · rw [if_neg he] at hl; simp only [he, if_false]; exact hst _ _ _ _ (I.told k hk hl) hB
      · intro k hk hl b hb
        rw [getD_set hisz] at hl
        by_cases he : k = i
        · subst he; simp only [if_true] at hb; exact (hown b hb).2
        · rw [if_neg he] at hl; simp only [he, if_false] at hb; exact Nat.lt_of_lt_of_le (I.lt k hk hl b hb) hB.size
      · intro k j hk hj hkj hlk hlj b hb
        rw [getD_set hisz] at hlk hlj
        by_cases he : k = i
        · subst he
          simp only [if_true] at hb
          rw [if_neg (fun e => hkj e.symm)] at hlj
          simp only [show j ≠ k from fun e => hkj e.symm, if_false]
          intro hb2
          have := I.lt j hj hlj b hb2
          have := (hown b hb).1
          omega
        · rw [if_neg he] at hlk
          simp only [he, if_false] at hb
          by_cases he2 : j = i
          · subst he2
            simp only [if_true]
            intro hb2
            have := I.lt k hk hlk b hb
            have := (hown b hb2).1
            omega
          · rw [if_neg he2] at hlj
            simp only [he2, if_false]
            exact I.sep k j hk hj hkj hlk hlj b hb
    unfold wpOp
    simp only [hoi]
    rw [← hagr.wanted, ← hagr.exec (fun cs b => Region.noSelect_spec hsel i o' cs b hoi)] at hOb
    by_cases hw : Region.wanted o' (yielded ops a.tmps) = true
    · simp only [hw, if_true] at hOb ⊢
      exact .inl (wp_of_free hOb fun v w' ⟨h1, h2, h3, h4⟩ => next v w' h1 h2 h3 h4)
    · simp only [hw, if_false, Bool.false_eq_true] at hOb ⊢
      exact next undef w I.cls (Below.refl _ _) hOb.1 (fun b hb => by rw [hOb.2] at hb; cases hb)

/-- All in one. -/
def freeB (ops : Array Oper) (deps : Nat → List Nat) (n : Nat) : Bool :=
  Region.noSelect ops && Region.sinkB .any ops n && Region.chainB .any ops n && decide (n < ops.size) && dsts ops n && depsB .any ops deps n && Region.seqB .any ops (ops.size - n) n (firstB ops n)
def allOb (p : Nat → Prop) : Nat → Nat → Prop
  | 0, _ => True
  | m + 1, k => p k ∧ allOb p m (k + 1)
theorem allOb_spec {p : Nat → Prop} : ∀ {m k : Nat}, allOb p m k → ∀ i, k ≤ i → i < k + m → p i
  | 0, _, _, _, h1, h2 => by omega
  | m + 1, k, h, i, h1, h2 => by
    by_cases he : i = k
    · subst he; exact h.1
    · exact allOb_spec h.2 i (by omega) (by omega)
theorem wp_region_free {id : Nat} {Q : Exit → Act → World → Prop} {a : Act} {w : World} {l : List Oper} (n : Nat) (C : World → Prop) (deps : Nat → List Nat) (ψ : Nat → Value → World → Prop) (own : Nat → Value → List Nat)
    (hm : P.follows .mixedOrders = true) (hB : freeB l.toArray deps n = true) (hC : C w.drew) (hst : ∀ i v w w', ψ i v w → Below w.heap.size w w' → ψ i v w')
    (hob : allOb (freeOb P l.toArray C deps ψ own a) n 0)
    (hfin : ∀ vs w, C w → (∀ i, i < n → ψ i (vs i) w) → (∀ i j, i < n → j < n → i ≠ j → ∀ b ∈ own i (vs i), b ∉ own j (vs j)) → (∀ i, i < n → ∀ b ∈ own i (vs i), b < w.heap.size) → wpList P l.toArray Q (l.drop n) (putsL l.toArray (fun _ => true) vs a n) w) : (Code.region id l.toArray true).wp P Q a w := by
  simp only [freeB, Bool.and_eq_true, decide_eq_true_eq] at hB
  obtain ⟨⟨⟨⟨⟨⟨hsel, hs⟩, hc⟩, hn⟩, hD⟩, hdep⟩, hseq⟩ := hB
  have inv0 : HeadInv .any l.toArray n (Array.replicate l.toArray.size false) :=
    ⟨by simp, fun j oj _ hl => (by rw [getD_replicate_false] at hl; cases hl), fun t _ ht => getD_in (by simpa using ht) (getD_replicate_false _ _)⟩
  have hc0 : ∀ m, cnt (Array.replicate l.toArray.size false) m = m := by
    intro m
    induction m with
    | zero => rfl
    | succ m ih => simp only [cnt]; rw [ih, getD_replicate_false]; simp
  have hp0 : ∀ m, putsL l.toArray (fun k => (Array.replicate l.toArray.size false).getD k false) (fun _ => undef) a m = a := by
    intro m
    induction m with
    | zero => rfl
    | succ m ih => simp only [putsL]; rw [getD_replicate_false]; simp only [Bool.false_eq_true, if_false]; exact ih
  refine wp_region_any hm ?_
  have hdl : (l.drop n).length = l.toArray.size - n := by simp
  have H := wpAny_free (P := P) (md := .any) (g := l.toArray.size - n) (Q' := Q) hsel hs hc hn hD hdep hst (fun i hi => allOb_spec hob i (Nat.zero_le _) (by omega))
    (fun vs w' h1 h2 h3 h4 => by
      have := wpAny_of_seq (md := .any) (Q' := Q) (l.drop n) n (firstB l.toArray n) _ w' (fun j => by simp [List.getElem?_drop]) (by rw [hdl]; exact hseq) (hfin vs w' h1 h2 h3 h4)
      rwa [hdl] at this)
    n (Array.replicate l.toArray.size false) (fun _ => undef) a w.drew (hc0 n)
    ⟨inv0, hC, (hp0 n).symm, fun i _ h => (by rw [getD_replicate_false] at h; cases h), fun i _ h => (by rw [getD_replicate_false] at h; cases h), fun i j _ _ _ h => (by rw [getD_replicate_false] at h; cases h)⟩
  rw [show n + (l.toArray.size - n) = l.toArray.size by omega] at H
  exact H

/-! ### The same, laid out in the text's order -/
def freePost (C : World → Prop) (ψ : Nat → Value → World → Prop) (own : Nat → Value → List Nat) (k : Nat) (w : World) (v : Value) (w' : World) : Prop :=
  C w' ∧ Below w.heap.size w w' ∧ ψ k v w' ∧ ∀ b ∈ own k v, w.heap.size ≤ b ∧ b < w'.heap.size
def obsL (P : Program) (ops : Array Oper) (C : World → Prop) (deps : Nat → List Nat) (ψ : Nat → Value → World → Prop) (own : Nat → Value → List Nat) (vs : Nat → Value) (F : Act → Prop) : List Oper → Nat → Act → Prop
  | [], _, a => F a
  | o :: rest, k, a => (∀ w, C w → (∀ d ∈ deps k, ψ d (vs d) w) → if Region.wanted o (yielded ops a.tmps) then freeUpon P (freePost C ψ own k w) ((execOp a.eval o).run P w) else ψ k undef w ∧ own k undef = []) ∧
      obsL P ops C deps ψ own vs F rest (k + 1) (a.put o.dst (vs k))
theorem obsL_spec {vs : Nat → Value} {F : Act → Prop} {a0 : Act} : ∀ (l : List Oper) (k : Nat), (∀ j, j < l.length → l[j]? = ops[k + j]?) → obsL P ops C deps ψ own vs F l k (putsL ops (fun _ => true) vs a0 k) →
    (∀ i, k ≤ i → i < k + l.length → ∃ oi, ops[i]? = some oi ∧ ∀ w, C w → (∀ d ∈ deps i, ψ d (vs d) w) → if Region.wanted oi (yielded ops (putsL ops (fun _ => true) vs a0 i).tmps) then freeUpon P (freePost C ψ own i w) ((execOp (putsL ops (fun _ => true) vs a0 i).eval oi).run P w) else ψ i undef w ∧ own i undef = []) ∧
      F (putsL ops (fun _ => true) vs a0 (k + l.length))
  | [], k, _, h => ⟨fun i h1 h2 => absurd h2 (by simp; omega), h⟩
  | o :: l, k, hl, h => by
    have h0 : ops[k]? = some o := by simpa using (hl 0 (by simp)).symm
    have e : putsL ops (fun _ => true) vs a0 (k + 1) = (putsL ops (fun _ => true) vs a0 k).put o.dst (vs k) := by simp only [putsL, if_true, h0]
    obtain ⟨h1, h2⟩ := h
    rw [← e] at h2
    obtain ⟨g1, g2⟩ := obsL_spec l (k + 1) (fun j hj => by have := hl (j + 1) (by simp; omega); simpa [Nat.add_assoc, Nat.add_comm 1 j] using this) h2
    refine ⟨fun i hi1 hi2 => ?_, ?_⟩
    · by_cases hik : i = k
      · subst hik; exact ⟨o, h0, h1⟩
      · exact g1 i (by omega) (by simp at hi2; omega)
    · rw [show k + (o :: l).length = k + 1 + l.length by simp; omega]; exact g2
theorem wp_region_free2 {id : Nat} {Q : Exit → Act → World → Prop} {a : Act} {w : World} {l : List Oper} (n : Nat) (C : World → Prop) (deps : Nat → List Nat) (ψ : Nat → Value → World → Prop) (own : Nat → Value → List Nat)
    (hm : P.follows .mixedOrders = true) (hB : freeB l.toArray deps n = true) (hC : C w.drew) (hst : ∀ i v w w', ψ i v w → Below w.heap.size w w' → ψ i v w')
    (h : ∀ vs, obsL P l.toArray C deps ψ own vs (fun a' => ∀ w', C w' → (∀ i, i < n → ψ i (vs i) w') → (∀ i j, i < n → j < n → i ≠ j → ∀ b ∈ own i (vs i), b ∉ own j (vs j)) → (∀ i, i < n → ∀ b ∈ own i (vs i), b < w'.heap.size) → wpList P l.toArray Q (l.drop n) a' w') (l.take n) 0 a) :
    (Code.region id l.toArray true).wp P Q a w := by
  have hB' := hB
  simp only [freeB, Bool.and_eq_true, decide_eq_true_eq] at hB'
  have hn : n < l.length := by simpa using hB'.1.1.1.2
  have htl : (l.take n).length = n := by simp; omega
  have key := fun vs => obsL_spec (P := P) (ops := l.toArray) (a0 := a) (l.take n) 0 (fun j hj => by rw [htl] at hj; simp [hj]) (h vs)
  refine wp_region_free n C deps ψ own hm hB hC hst ?_ (fun vs w' h1 h2 h3 h4 => by have := (key vs).2; rw [Nat.zero_add, htl] at this; exact this w' h1 h2 h3 h4)
  have all : ∀ m k, k + m = n → allOb (freeOb P l.toArray C deps ψ own a) m k := by
    intro m
    induction m with
    | zero => exact fun _ _ => trivial
    | succ m ih =>
      intro k hk
      refine ⟨?_, ih (k + 1) (by omega)⟩
      unfold freeOb
      have ho : l.toArray[k]? = some (l[k]'(by omega)) := by simp [List.getElem?_eq_getElem (show k < l.length by omega)]
      rw [ho]
      intro vs w' hC' hd
      obtain ⟨oi, ho', h1⟩ := (key vs).1 k (Nat.zero_le _) (by rw [htl]; omega)
      rw [ho] at ho'
      cases ho'
      have e : putsL l.toArray (fun j => decide (j < k)) vs a k = putsL l.toArray (fun _ => true) vs a k := putsL_congr k fun j hj => ⟨by simp [hj], fun _ => rfl⟩
      rw [e]
      exact h1 w' hC' hd
  exact all n 0 (by omega)
theorem ob_step {vs : Nat → Value} {F : Act → Prop} {o : Oper} {rest : List Oper} {k : Nat} {a : Act} (hg : o.guard = none)
    (h1 : ∀ w, C w → (∀ d ∈ deps k, ψ d (vs d) w) → freeUpon P (freePost C ψ own k w) ((execOp a.eval o).run P w)) (h2 : obsL P ops C deps ψ own vs F rest (k + 1) (a.put o.dst (vs k))) : obsL P ops C deps ψ own vs F (o :: rest) k a :=
  ⟨fun w hw hd => by rw [if_pos (by simp [Region.wanted, hg])]; exact h1 w hw hd, h2⟩
theorem ob_end {vs : Nat → Value} {F : Act → Prop} {k : Nat} {a : Act} (h : F a) : obsL P ops C deps ψ own vs F [] k a := h
theorem freeUpon_value_eq {Post : Value → World → Prop} {u : Value} {w : World} : freeUpon P Post (.ok (.value u) w) = Post u w := rfl
theorem freeUpon_enter_eq {Post : Value → World → Prop} {f : FuncId} {args : Array Value} {w : World} : freeUpon P Post (.ok (.enter f args) w) = Calls P f args w (fun e w'' => ∃ u, e = .returned u ∧ Post u w'') := rfl
/-- Operations that leave a value; some make memory. -/
def valOp2 : Op → Bool
  | .move _ | .assign _ | .load .. | .binOp .. | .unOp .. | .fieldAddr .. | .field .. | .indexAddr .. | .index .. | .extract .. | .convert .. | .build .. | .slice .. | .alloc .. | .buildSlice .. | .makeSlice .. | .box .. => true
  | _ => false
theorem valOp2_run {ρ : Operand → Value} {o : Oper} (h : valOp2 o.op = true) {w w' : World} {n : Next} (hr : (execOp ρ o).run P w = .ok n w') : ∃ u, n = .value u := by
  obtain ⟨d, op, ty, p, af, g⟩ := o
  have key : ∀ (s : Sem Value), (s >>= fun a => (pure (.value a) : Sem Next)).run P w = .ok n w' → ∃ u, n = .value u := by
    intro s hs
    rw [Sem.run_bind] at hs
    cases hx : s.run P w with
    | ok a w1 => rw [hx] at hs; simp [Result.andThen] at hs; exact ⟨a, hs.1.symm⟩
    | halt x w1 => rw [hx] at hs; simp [Result.andThen] at hs
  cases op <;> first | (cases h; done) | skip
  case move x => exact ⟨_, by simp only [execOp] at hr; cases hr; rfl⟩
  case assign x => exact ⟨_, by simp only [execOp] at hr; cases hr; rfl⟩
  all_goals exact key _ hr
/-- An operation that leaves a value, by the walk's own. -/
theorem free_wp {o : Oper} {a : Act} {w : World} {Post : Value → World → Prop} {d : Nat} (hv : valOp2 o.op = true) (hd : o.dst = some d) (hsz : d < a.tmps.size) (h : ∀ K : Act → World → Prop, (∀ v w', Post v w' → K (a.put (some d) v) w') → o.wp P a w K (fun _ _ _ => False)) :
    freeUpon P Post ((execOp a.eval o).run P w) := by
  have inj : ∀ u v : Value, a.put (some d) u = a.put (some d) v → u = v := by
    intro u v e
    have e1 := congrArg (fun x : Act => x.tmps[d]?) e
    simpa [Act.put, Array.getElem?_setIfInBounds, hsz] using e1
  have h1 := h (fun a' w' => ∃ v, a' = a.put (some d) v ∧ Post v w') (fun v w' hp => ⟨v, rfl, hp⟩)
  unfold Oper.wp at h1
  cases hr : (execOp a.eval o).run P w with
  | ok n w' =>
    obtain ⟨u, rfl⟩ := valOp2_run hv hr
    rw [hr] at h1
    simp only [Oper.upon, hd] at h1
    obtain ⟨v, e, hp⟩ := h1
    simp only [freeUpon]
    rw [inj _ _ e]; exact hp
  | halt x w' => rw [hr] at h1; cases x <;> exact h1.elim
attribute [irreducible] obsL freeUpon
attribute [go_sem] freeUpon_value_eq freeUpon_enter_eq
end
end Go.Proofs.Ytapilgbbkbfcbaa
