/- Regions whose order is open: one walk in the text's order serves every order, where the head's operations keep the world in a class C (each may leave any value of a set), and a tail in forced order may do anything. No condition. -/
import Derived.Deep.Quiet
import Derived.StillTail
import Derived.Attr
namespace Go.Proofs.Ytapilgbbkbfcbaa
open Go
section
variable {P : Program} {ops : Array Oper} {md : Region.Mode} {C : World → Prop} {S : FuncId → Array Value → Value → Prop}

theorem runs_past {m m1 : Machine} {n1 n2 : Nat} {o : Outcome} {w : World} (h1 : runN P n1 m = .next m1) (hlt : n1 < n2) (he : step P m1 = .ended o w) (m2 : Machine) : runN P n2 m ≠ .next m2 := by
  obtain ⟨k, rfl⟩ : ∃ k, n2 = n1 + (k + 1) := ⟨n2 - n1 - 1, by omega⟩
  rw [runN_add, h1]
  simp [runN, he]

/-- A call hands back one value: two contracts speak of the same. -/
theorem calls_same {f : FuncId} {args : Array Value} {w : World} {φ ψ : Value → Prop} {A B : World → Prop} (hi : P.inits.idxOf? f = none)
    (h : Calls P f args w (fun e w' => ∃ v, e = .returned v ∧ φ v ∧ A w')) (h' : Calls P f args w (fun e w' => ∃ v, e = .returned v ∧ ψ v ∧ B w')) : ∃ v, φ v ∧ ψ v := by
  obtain ⟨e, w1, fr1, ⟨v1, he, hφ, _⟩, hc1, hf1, hl1⟩ := h []
  subst he
  obtain ⟨e, w2, fr2, ⟨v2, he, hψ, _⟩, hc2, hf2, hl2⟩ := h' []
  subst he
  obtain ⟨n1, h1⟩ := hc1
  obtain ⟨n2, h2⟩ := hc2
  have e1 := step_leave_done hl1 (hf1 ▸ hi)
  have e2 := step_leave_done hl2 (hf2 ▸ hi)
  have hn : n1 = n2 := by
    rcases Nat.lt_trichotomy n1 n2 with h | h | h
    · exact absurd h2 (runs_past h1 h e1 _)
    · exact h
    · exact absurd h1 (runs_past h2 h e2 _)
  subst hn
  rw [h1] at h2
  have hm : lone fr1 [] w1 = lone fr2 [] w2 := by injection h2
  rw [hm, e2] at e1
  have hv : v2 = v1 := by injection e1 with a b; injection a
  subst hv
  exact ⟨_, hφ, hψ⟩

/-- What is asked of an operation's run: the world stays in the class; what is left in the slot is one value; or, of a call, any value of a set that the region names. -/
def calmUpon (P : Program) (C : World → Prop) (S : FuncId → Array Value → Value → Prop) (K : Value → Prop) : Result Next → Prop
  | .ok (.value u) w' => C w' ∧ K u
  | .ok .skip w' => C w' ∧ K undef
  | .ok (.enter f args) w' => P.inits.idxOf? f = none ∧
      ((∃ v, Calls P f args w' (fun e w'' => ∃ u, e = .returned u ∧ u = v ∧ C w'') ∧ K v) ∨
       (Calls P f args w' (fun e w'' => ∃ u, e = .returned u ∧ S f args u ∧ C w'') ∧ ∀ v, S f args v → K v))
  | _ => False

theorem calmUpon_value {K : Value → Prop} {u : Value} {w : World} (h : C w) (hk : K u) : calmUpon P C S K (.ok (.value u) w) := ⟨h, hk⟩
theorem calmUpon_one {K : Value → Prop} {f : FuncId} {args : Array Value} {w : World} {v : Value} (hi : P.inits.idxOf? f = none)
    (h : Calls P f args w (fun e w'' => e = .returned v ∧ C w'')) (hk : K v) : calmUpon P C S K (.ok (.enter f args) w) :=
  ⟨hi, .inl ⟨v, h.mono fun _ _ ⟨he, hc⟩ => ⟨v, he, rfl, hc⟩, hk⟩⟩
theorem calmUpon_set {K : Value → Prop} {f : FuncId} {args : Array Value} {w : World} (hi : P.inits.idxOf? f = none)
    (h : Calls P f args w (fun e w'' => ∃ u, e = .returned u ∧ S f args u ∧ C w'')) (hk : ∀ v, S f args v → K v) : calmUpon P C S K (.ok (.enter f args) w) :=
  ⟨hi, .inr ⟨h, hk⟩⟩

theorem calmUpon_mono {K K' : Value → Prop} {r : Result Next} (h : ∀ v, K v → K' v) (hh : calmUpon P C S K r) : calmUpon P C S K' r := by
  cases r with
  | ok n w' =>
    cases n <;> simp only [calmUpon] at hh ⊢
    case value u => exact ⟨hh.1, h _ hh.2⟩
    case skip => exact ⟨hh.1, h _ hh.2⟩
    case enter f args =>
      refine ⟨hh.1, ?_⟩
      rcases hh.2 with ⟨v, h1, h2⟩ | ⟨h1, h2⟩
      · exact .inl ⟨v, h1, h _ h2⟩
      · exact .inr ⟨h1, fun v hv => h _ (h2 v hv)⟩
  | halt x w' => simp only [calmUpon] at hh

theorem calmUpon_all {ι : Type} [Nonempty ι] {K : ι → Value → Prop} {r : Result Next} (hh : ∀ x, calmUpon P C S (K x) r) : calmUpon P C S (fun u => ∀ x, K x u) r := by
  obtain ⟨x0⟩ := ‹Nonempty ι›
  cases r with
  | ok n w' =>
    cases n <;> simp only [calmUpon] at hh ⊢ <;> (try exact (hh x0).elim)
    case value u => exact ⟨(hh x0).1, fun x => (hh x).2⟩
    case skip => exact ⟨(hh x0).1, fun x => (hh x).2⟩
    case enter f args =>
      have hi := (hh x0).1
      refine ⟨hi, ?_⟩
      by_cases hA : ∃ x v, Calls P f args w' (fun e w'' => ∃ u, e = .returned u ∧ u = v ∧ C w'') ∧ K x v
      · obtain ⟨x1, v1, h1, _⟩ := hA
        refine .inl ⟨v1, h1, fun x => ?_⟩
        rcases (hh x).2 with ⟨v, h2, hk⟩ | ⟨h2, hk⟩
        · obtain ⟨u, rfl, rfl⟩ := calls_same hi h1 h2
          exact hk
        · obtain ⟨u, rfl, hs⟩ := calls_same hi h1 h2
          exact hk _ hs
      · have hB : ∀ x, Calls P f args w' (fun e w'' => ∃ u, e = .returned u ∧ S f args u ∧ C w'') ∧ ∀ v, S f args v → K x v := fun x => by
          rcases (hh x).2 with ⟨v, h2, hk⟩ | h2
          · exact absurd ⟨x, v, h2, hk⟩ hA
          · exact h2
        exact .inr ⟨(hB x0).1, fun v hv x => (hB x).2 v hv⟩
  | halt x w' => exact absurd (hh x0) (by simp only [calmUpon]; exact id)

theorem calmUpon_some {K : Value → Prop} {r : Result Next} (h : calmUpon P C S K r) : ∃ v, K v := by
  cases r with
  | ok n w' =>
    cases n <;> simp only [calmUpon] at h
    case value u => exact ⟨u, h.2⟩
    case skip => exact ⟨undef, h.2⟩
    case enter f args =>
      rcases h.2 with ⟨v, h1, h2⟩ | ⟨h1, h2⟩
      · exact ⟨v, h2⟩
      · obtain ⟨e, w'', fr, ⟨v, he, hs, _⟩, _⟩ := h1 []
        exact ⟨v, h2 v hs⟩
  | halt x w' => simp only [calmUpon] at h

/-- The order of two runs makes no difference. -/
theorem calmUpon_swap {K : Value → Value → Prop} {ri rj : Result Next} (h : calmUpon P C S (fun v => calmUpon P C S (fun u => K u v) rj) ri) :
    calmUpon P C S (fun u => calmUpon P C S (fun v => K u v) ri) rj := by
  cases ri with
  | ok n w' =>
    cases n <;> simp only [calmUpon] at h ⊢
    case value v => exact calmUpon_mono (fun u hu => ⟨h.1, hu⟩) h.2
    case skip => exact calmUpon_mono (fun u hu => ⟨h.1, hu⟩) h.2
    case enter f args =>
      rcases h.2 with ⟨v, h1, h2⟩ | ⟨h1, h2⟩
      · exact calmUpon_mono (fun u hu => ⟨h.1, .inl ⟨v, h1, hu⟩⟩) h2
      · obtain ⟨e, w'', fr, ⟨v, he, hs, _⟩, _⟩ := h1 []
        have : Nonempty {v // S f args v} := ⟨⟨v, hs⟩⟩
        have := calmUpon_all (ι := {v // S f args v}) (K := fun x u => K u x.1) (fun x => h2 x.1 x.2)
        exact calmUpon_mono (fun u hu => ⟨h.1, .inr ⟨h1, fun v hv => hu ⟨v, hv⟩⟩⟩) this
  | halt x w' => simp only [calmUpon] at h

def calm (P : Program) (o : Oper) (a : Act) (C : World → Prop) (S : FuncId → Array Value → Value → Prop) (next : Act → Prop) : Prop :=
  ∀ w, C w → calmUpon P C S (fun v => next (a.put o.dst v)) ((execOp a.eval o).run P w)

/-- The walk in the text's order. -/
def wpCalm (P : Program) (ops : Array Oper) (C : World → Prop) (S : FuncId → Array Value → Value → Prop) (Q : Act → Prop) : List Oper → Act → Prop
  | [], a => Q a
  | o :: rest, a => if Region.wanted o (yielded ops a.tmps) then calm P o a C S (wpCalm P ops C S Q rest) else wpCalm P ops C S Q rest (a.put o.dst undef)

theorem wpCalm_nil {Q : Act → Prop} {a : Act} (h : Q a) : wpCalm P ops C S Q [] a := h
theorem wpCalm_step {Q : Act → Prop} {a : Act} {o : Oper} {rest : List Oper}
    (h : ∀ K : Act → Prop, (∀ a, wpCalm P ops C S Q rest a → K a) → if Region.wanted o (yielded ops a.tmps) then calm P o a C S K else K (a.put o.dst undef)) : wpCalm P ops C S Q (o :: rest) a :=
  h _ (fun _ h => h)

def cOp (P : Program) (ops : Array Oper) (C : World → Prop) (S : FuncId → Array Value → Value → Prop) (i : Nat) (K : Act → Prop) (a : Act) : Prop :=
  match ops[i]? with
  | none => K a
  | some o => if Region.wanted o (yielded ops a.tmps) then calm P o a C S K else K (a.put o.dst undef)

theorem calm_mono {o : Oper} {a : Act} {K K' : Act → Prop} (h : ∀ a, K a → K' a) (hh : calm P o a C S K) : calm P o a C S K' :=
  fun w hw => calmUpon_mono (fun _ hv => h _ hv) (hh w hw)

theorem cOp_mono {i : Nat} {a : Act} {K K' : Act → Prop} (h : ∀ a, K a → K' a) (hh : cOp P ops C S i K a) : cOp P ops C S i K' a := by
  unfold cOp at *
  split
  · exact h _ (by simpa [*] using hh)
  · rename_i o ho
    simp only [ho] at hh
    split
    · rename_i hw; simp only [hw, if_true] at hh; exact calm_mono h hh
    · rename_i hw; simp only [hw] at hh; exact h _ hh

def wpAnyC (P : Program) (md : Region.Mode) (ops : Array Oper) (C : World → Prop) (S : FuncId → Array Value → Value → Prop) (Q : Act → Prop) : Nat → Array Bool → Act → Prop
  | 0, listed, a => Region.ready md ops listed = [] ∧ Q a
  | fuel + 1, listed, a =>
    (Region.ready md ops listed = [] → Q a) ∧
    ∀ i ∈ Region.ready md ops listed, cOp P ops C S i (wpAnyC P md ops C S Q fuel (listed.setIfInBounds i true)) a

theorem wp_of_calm {o : Oper} {a : Act} {K : Act → Prop} {K' : Act → World → Prop} {Q' : Exit → Act → World → Prop} {w : World} (hw : C w) (h : ∀ a w', C w' → K a → K' a w') (hh : calm P o a C S K) : o.wp P a w K' Q' := by
  have h1 := hh w hw
  unfold Oper.wp
  generalize (execOp a.eval o).run P w = r at *
  cases r with
  | ok n w' =>
    cases n <;> simp only [calmUpon] at h1 <;> simp only [Oper.upon]
    case value u => exact h _ _ h1.1 h1.2
    case skip => exact h _ _ h1.1 h1.2
    case enter f args =>
      rcases h1.2 with ⟨v, h1, h2⟩ | ⟨h1, h2⟩
      · exact h1.mono fun e w'' ⟨u, he, hu, hw''⟩ => by subst he; subst hu; exact h _ _ hw'' h2
      · exact h1.mono fun e w'' ⟨u, he, hs, hw''⟩ => by subst he; exact h _ _ hw'' (h2 u hs)
  | halt x w' => simp only [calmUpon] at h1

theorem wpOp_of_cOp {i : Nat} {a : Act} {K : Act → Prop} {K' : Act → World → Prop} {Q' : Exit → Act → World → Prop} {w : World} (hC : C w) (h : ∀ a w', C w' → K a → K' a w') (hh : cOp P ops C S i K a) : wpOp P ops Q' i K' a w := by
  unfold cOp at hh
  unfold wpOp
  split
  · rename_i ho; simp only [ho] at hh; exact h _ _ hC hh
  · rename_i o ho
    simp only [ho] at hh
    split
    · rename_i hw; simp only [hw, if_true] at hh; exact .inl (wp_of_calm hC h hh)
    · rename_i hw; simp only [hw] at hh; exact h _ _ hC hh

theorem wpAny_of_calm {Q : Act → Prop} {Q' : Exit → Act → World → Prop} (hQ : ∀ a w, C w → Q a → Q' .normal a w) : ∀ (fuel : Nat) (listed : Array Bool) (a : Act) (w : World), C w →
    wpAnyC P md ops C S Q fuel listed a → wpAny P md ops Q' fuel listed a w
  | 0, _, _, _, hw, h => ⟨h.1, hQ _ _ hw h.2⟩
  | fuel + 1, _, _, _, hw, h => ⟨fun h0 => hQ _ _ hw (h.1 h0), fun i hi => wpOp_of_cOp hw (fun a' w' hw' => wpAny_of_calm hQ fuel _ a' w' hw') (h.2 i hi)⟩

theorem cOp_some (hC : ∃ w, C w) {i : Nat} {oi : Oper} (hi : ops[i]? = some oi) {K : Act → Prop} {a : Act} (h : cOp P ops C S i K a) : ∃ v, K (a.put oi.dst v) := by
  obtain ⟨w, hw⟩ := hC
  unfold cOp at h
  simp only [hi] at h
  split at h
  · exact calmUpon_some (h w hw)
  · exact ⟨undef, h⟩

/-- Two operations that are apart: what the second may do behind the first it may do ahead of it. -/
theorem cOp_swap {i j : Nat} {oi oj : Oper} (hi : ops[i]? = some oi) (hj : ops[j]? = some oj) (hap : oi.apart ops oj = true)
    (hsi : ∀ cs b, oi.op ≠ .select cs b) (hsj : ∀ cs b, oj.op ≠ .select cs b) {K : Act → Prop} {a : Act}
    (h : cOp P ops C S i (cOp P ops C S j K) a) : cOp P ops C S j (cOp P ops C S i K) a := by
  obtain ⟨h1, h2, h3⟩ := Oper.apart_spec hap
  unfold cOp at h ⊢
  simp only [hi, hj] at h ⊢
  by_cases hwi : Region.wanted oi (yielded ops a.tmps) = true <;> by_cases hwj : Region.wanted oj (yielded ops a.tmps) = true
  · simp only [hwi, hwj, if_true] at h ⊢
    intro w hw
    have : Nonempty {w // C w} := ⟨⟨w, hw⟩⟩
    refine calmUpon_mono (fun u hu => ?_) (calmUpon_all (ι := {w // C w}) (K := fun x u => calmUpon P C S (fun v => K ((a.put oj.dst u).put oi.dst v)) ((execOp a.eval oi).run P x.1)) (fun x => ?_))
    · dsimp only
      rw [wanted_put oi a oj.dst u h3]
      simp only [hwi, if_true]
      intro w2 hw2
      rw [execOp_put oi hsi a oj.dst u h3]
      exact hu ⟨w2, hw2⟩
    · refine calmUpon_swap (calmUpon_mono (fun v hv => ?_) (h x.1 x.2))
      dsimp only at hv
      rw [wanted_put oj a oi.dst v h1] at hv
      simp only [hwj, if_true] at hv
      have g := hv w hw
      rw [execOp_put oj hsj a oi.dst v h1] at g
      exact calmUpon_mono (fun u hu => by rw [← Act.put_comm a v u h2]; exact hu) g
  · have hwj' : Region.wanted oj (yielded ops a.tmps) = false := by simpa using hwj
    simp only [hwi, hwj', if_true, Bool.false_eq_true, if_false] at h ⊢
    rw [wanted_put oi a oj.dst undef h3]
    simp only [hwi, if_true]
    intro w2 hw2
    rw [execOp_put oi hsi a oj.dst undef h3]
    refine calmUpon_mono (fun v hv => ?_) (h w2 hw2)
    dsimp only at hv
    rw [wanted_put oj a oi.dst v h1] at hv
    simp only [hwj', Bool.false_eq_true, if_false] at hv
    rw [← Act.put_comm a v undef h2]
    exact hv
  · have hwi' : Region.wanted oi (yielded ops a.tmps) = false := by simpa using hwi
    simp only [hwi', hwj, if_true, Bool.false_eq_true, if_false] at h ⊢
    rw [wanted_put oj a oi.dst undef h1] at h
    simp only [hwj, if_true] at h
    intro w hw
    have g := h w hw
    rw [execOp_put oj hsj a oi.dst undef h1] at g
    refine calmUpon_mono (fun u hu => ?_) g
    dsimp only
    rw [wanted_put oi a oj.dst u h3]
    simp only [hwi', Bool.false_eq_true, if_false]
    rw [← Act.put_comm a undef u h2]
    exact hu
  · have hwi' : Region.wanted oi (yielded ops a.tmps) = false := by simpa using hwi
    have hwj' : Region.wanted oj (yielded ops a.tmps) = false := by simpa using hwj
    simp only [hwi', hwj', Bool.false_eq_true, if_false] at h ⊢
    rw [wanted_put oj a oi.dst undef h1] at h
    simp only [hwj', Bool.false_eq_true, if_false] at h
    rw [wanted_put oi a oj.dst undef h3]
    simp only [hwi', Bool.false_eq_true, if_false]
    rw [← Act.put_comm a undef undef h2]
    exact h

/-- An operation that may come up now, apart from all that may come up ahead of it, may be taken first. -/
theorem wpAnyC_first (hC : ∃ w, C w) {Q : Act → Prop} {i : Nat} {oi : Oper} (hi : ops[i]? = some oi) (hsel : ∀ (j : Nat) (o : Oper) cs b, ops[j]? = some o → o.op ≠ .select cs b) :
    ∀ (fuel : Nat) (listed : Array Bool) (a : Act),
      (∀ j oj, ops[j]? = some oj → j ≠ i → listed.getD j true = false → (∀ e ∈ oj.after, Region.binds md e = true → e.on ≠ i) → oi.apart ops oj = true) →
      i ∈ Region.ready md ops listed →
      cOp P ops C S i (wpAnyC P md ops C S Q fuel (listed.setIfInBounds i true)) a → wpAnyC P md ops C S Q (fuel + 1) listed a := by
  intro fuel
  induction fuel with
  | zero =>
    intro listed a _ hr H
    refine ⟨fun h => (by rw [h] at hr; cases hr), fun j hj => ?_⟩
    by_cases hji : j = i
    · subst hji; exact H
    · obtain ⟨v0, hv0⟩ := cOp_some hC hi H
      have := ready_mono hj hji
      rw [hv0.1] at this
      cases this
  | succ fuel ih =>
    intro listed a hfree hr H
    refine ⟨fun h => (by rw [h] at hr; cases hr), fun j hj => ?_⟩
    by_cases hji : j = i
    · subst hji; exact H
    · obtain ⟨hjun, oj, hoj, hall⟩ := mem_ready.1 hj
      have hnot : ∀ e ∈ oj.after, Region.binds md e = true → e.on ≠ i := fun e he hb heq => by
        have h1 := hall e he hb
        have h0 := (mem_ready.1 hr).1
        rw [heq] at h1
        rcases Nat.lt_or_ge i listed.size with h' | h'
        · simp [h'] at h0 h1; rw [h0] at h1; cases h1
        · simp [Array.getElem?_eq_none h'] at h1
      have h2 := cOp_swap hi hoj (hfree j oj hoj hji hjun hnot) (fun cs b => hsel i oi cs b hi) (fun cs b => hsel j oj cs b hoj)
        (cOp_mono (fun a' h => h.2 j (ready_mono hj hji)) H)
      have hfree' : ∀ k ok, ops[k]? = some ok → k ≠ i → (listed.setIfInBounds j true).getD k true = false →
          (∀ e ∈ ok.after, Region.binds md e = true → e.on ≠ i) → oi.apart ops ok = true := fun k ok hk hki hun hno => by
        refine hfree k ok hk hki ?_ hno
        by_cases hjk : j = k
        · subst hjk; exact hjun
        · rw [getD_set_ne true hjk] at hun; exact hun
      refine cOp_mono (fun a' h3 => ih (listed.setIfInBounds j true) a' hfree' (ready_mono hr (Ne.symm hji)) ?_) h2
      rw [Array.setIfInBounds_comm _ _ hji]
      exact h3

theorem wpAnyC_lex (hC : ∃ w, C w) {Q : Act → Prop} (hs : Region.noSelect ops = true) : ∀ (l : List Oper) (k : Nat) (listed : Array Bool) (a : Act), (∀ j, l[j]? = ops[k + j]?) →
    Region.lexFrom md ops l.length k listed = true → wpCalm P ops C S Q l a → wpAnyC P md ops C S Q l.length listed a
  | [], _, _, _, _, hB, h => ⟨by simpa [Region.lexFrom] using hB, h⟩
  | o :: l, k, listed, a, hl, hB, h => by
    have h0 : ops[k]? = some o := by simpa using (hl 0).symm
    simp only [List.length_cons, Region.lexFrom, Bool.and_eq_true] at hB
    obtain ⟨⟨hr, hf⟩, hB'⟩ := hB
    have hst : cOp P ops C S k (wpCalm P ops C S Q l) a := by unfold cOp; simp only [h0]; exact h
    exact wpAnyC_first hC h0 (Region.noSelect_spec hs) l.length listed a (Region.free_spec h0 hf) (by simpa using hr)
      (cOp_mono (fun a' h' => wpAnyC_lex hC hs l (k + 1) _ _ (fun j => by have := hl (j + 1); simpa [Nat.add_assoc, Nat.add_comm 1 j] using this) hB' h') hst)

/-- ONE WALK SERVES EVERY ORDER: a region that draws its order, all of whose operations are calm in the class. -/
theorem wp_region_calm {id : Nat} {Q : Exit → Act → World → Prop} {a : Act} {w : World} {l : List Oper} (hm : P.follows .mixedOrders = true) (hB : Region.lexB .any l.toArray = true)
    (C : World → Prop) (S : FuncId → Array Value → Value → Prop) (hC : C w.drew)
    (h : wpCalm P l.toArray C S (fun a' => ∀ w', C w' → Q .normal a' w') l a) : (Code.region id l.toArray true).wp P Q a w := by
  simp only [Region.lexB, Bool.and_eq_true] at hB
  refine wp_region_any hm (wpAny_of_calm (S := S) (Q := fun a' => ∀ w', C w' → Q .normal a' w') (fun _ w' hw' h => h w' hw') _ _ _ _ hC ?_)
  have := wpAnyC_lex (C := C) (S := S) (md := .any) ⟨_, hC⟩ hB.1 l 0 (Array.replicate l.toArray.size false) a (by simp) (by simpa using hB.2) h
  simpa using this

/-! ### A tail in forced order behind a calm head -/
def wpAnyCL (P : Program) (md : Region.Mode) (ops : Array Oper) (C : World → Prop) (S : FuncId → Array Value → Value → Prop) (n : Nat) (L : Array Bool → Act → Prop) : Nat → Array Bool → Act → Prop
  | 0, listed, a => L listed a
  | f + 1, listed, a =>
    Region.ready md ops listed ≠ [] ∧ ∀ i ∈ Region.ready md ops listed, i < n ∧ cOp P ops C S i (wpAnyCL P md ops C S n L f (listed.setIfInBounds i true)) a

theorem wpAny_of_calmHead {n g : Nat} {L : Array Bool → Act → Prop} {Q' : Exit → Act → World → Prop} (hL : ∀ listed a w, C w → L listed a → wpAny P md ops Q' g listed a w) :
    ∀ (f : Nat) (listed : Array Bool) (a : Act) (w : World), C w → wpAnyCL P md ops C S n L f listed a → wpAny P md ops Q' (f + g) listed a w
  | 0, listed, a, w, hw, h => by rw [Nat.zero_add]; exact hL _ _ _ hw h
  | f + 1, listed, a, w, hw, h => by
    rw [show f + 1 + g = (f + g) + 1 by omega]
    exact ⟨fun h0 => absurd h0 h.1, fun i hi => wpOp_of_cOp hw (fun a' w' hw' h' => wpAny_of_calmHead hL f _ a' w' hw' h') (h.2 i hi).2⟩

theorem wpAnyCL_first (hC : ∃ w, C w) {n i : Nat} {oi : Oper} {L : Array Bool → Act → Prop} (hi : ops[i]? = some oi) (hsel : ∀ (j : Nat) (o : Oper) cs b, ops[j]? = some o → o.op ≠ .select cs b)
    (hs : Region.sinkB md ops n = true) (hc : Region.chainB md ops n = true) (hn : n < ops.size) (hin : i < n)
    (hdone : ∀ listed a, L listed a → ∀ j ∈ Region.ready md ops listed, n ≤ j) :
    ∀ (f : Nat) (listed : Array Bool) (a : Act), HeadInv md ops n listed →
      (∀ j oj, ops[j]? = some oj → j ≠ i → listed.getD j true = false → (∀ e ∈ oj.after, Region.binds md e = true → e.on ≠ i) → oi.apart ops oj = true) →
      i ∈ Region.ready md ops listed →
      cOp P ops C S i (wpAnyCL P md ops C S n L f (listed.setIfInBounds i true)) a → wpAnyCL P md ops C S n L (f + 1) listed a := by
  intro f
  induction f with
  | zero =>
    intro listed a inv _ hr H
    have hun := (mem_ready.1 hr).1
    refine ⟨fun h => (by rw [h] at hr; cases hr), fun j hj => ?_⟩
    have hjn : j < n := by
      rcases Nat.lt_or_ge j n with h | h
      · exact h
      · exact absurd hj (tail_waits hs hc hn inv _ i rfl hin hun j h)
    refine ⟨hjn, ?_⟩
    by_cases hji : j = i
    · subst hji; exact H
    · obtain ⟨v0, hv0⟩ := cOp_some hC hi H
      have := hdone _ _ hv0 j (ready_mono hj hji)
      omega
  | succ f ih =>
    intro listed a inv hfree hr H
    have hun := (mem_ready.1 hr).1
    refine ⟨fun h => (by rw [h] at hr; cases hr), fun j hj => ?_⟩
    have hjn : j < n := by
      rcases Nat.lt_or_ge j n with h | h
      · exact h
      · exact absurd hj (tail_waits hs hc hn inv _ i rfl hin hun j h)
    refine ⟨hjn, ?_⟩
    by_cases hji : j = i
    · subst hji; exact H
    · obtain ⟨hjun, oj, hoj, hall⟩ := mem_ready.1 hj
      have hnot : ∀ e ∈ oj.after, Region.binds md e = true → e.on ≠ i := fun e he hb heq => by
        have h1 := hall e he hb
        rw [heq, getD_both hun] at h1
        cases h1
      have h2 := cOp_swap hi hoj (hfree j oj hoj hji hjun hnot) (fun cs b => hsel i oi cs b hi) (fun cs b => hsel j oj cs b hoj)
        (cOp_mono (fun a' h => (h.2 j (ready_mono hj hji)).2) H)
      have hfree' : ∀ k ok, ops[k]? = some ok → k ≠ i → (listed.setIfInBounds j true).getD k true = false →
          (∀ e ∈ ok.after, Region.binds md e = true → e.on ≠ i) → oi.apart ops ok = true := fun k ok hk hki hun hno => by
        refine hfree k ok hk hki ?_ hno
        by_cases hjk : j = k
        · subst hjk; exact hjun
        · rw [getD_set_ne true hjk] at hun; exact hun
      refine cOp_mono (fun a' h3 => ih (listed.setIfInBounds j true) a' (inv.set hj hjn) hfree' (ready_mono hr (Ne.symm hji)) ?_) h2
      rw [Array.setIfInBounds_comm _ _ hji]
      exact h3

theorem wpAnyCL_lex (hC : ∃ w, C w) {n g : Nat} {Lq : Act → Prop} (hsel : Region.noSelect ops = true) (hs : Region.sinkB md ops n = true) (hc : Region.chainB md ops n = true) (hn : n < ops.size) :
    ∀ (l : List Oper) (k : Nat) (listed : Array Bool) (a : Act), (∀ j, j < l.length → l[j]? = ops[k + j]?) → k + l.length = n → HeadInv md ops n listed →
    Region.lexHead md ops g l.length k listed = true → wpCalm P ops C S Lq l a →
    wpAnyCL P md ops C S n (fun listed' a' => Region.seqB md ops g n listed' = true ∧ Lq a') l.length listed a
  | [], k, listed, a, _, hk, _, hB, h => by
    have : k = n := by simpa using hk
    subst this
    exact ⟨by simpa [Region.lexHead] using hB, h⟩
  | o :: l, k, listed, a, hl, hk, inv, hB, h => by
    have h0 : ops[k]? = some o := by simpa using (hl 0 (by simp)).symm
    simp only [List.length_cons, Region.lexHead, Bool.and_eq_true] at hB
    obtain ⟨⟨hr, hf⟩, hB'⟩ := hB
    have hkn : k < n := by simp only [List.length_cons] at hk; omega
    have hr' : k ∈ Region.ready md ops listed := by simpa using hr
    have hst : cOp P ops C S k (wpCalm P ops C S Lq l) a := by unfold cOp; simp only [h0]; exact h
    exact wpAnyCL_first hC h0 (Region.noSelect_spec hsel) hs hc hn hkn (fun listed' a' hL => seqB_ready hL.1) l.length listed a inv (Region.free_spec h0 hf) hr'
      (cOp_mono (fun a' h' => wpAnyCL_lex hC hsel hs hc hn l (k + 1) _ _ (fun j hj => by have := hl (j + 1) (by simp; omega); simpa [Nat.add_assoc, Nat.add_comm 1 j] using this) (by simp only [List.length_cons] at hk; omega) (inv.set hr' hkn) hB' h') hst)

/-- A calm head (n operations), then a tail in forced order. -/
theorem wp_region_calm_tail {id : Nat} {Q : Exit → Act → World → Prop} {a : Act} {w : World} {l : List Oper} (n : Nat) (hm : P.follows .mixedOrders = true) (hB : Region.lexTailB .any l.toArray n = true)
    (C : World → Prop) (S : FuncId → Array Value → Value → Prop) (hC : C w.drew)
    (h : wpCalm P l.toArray C S (fun a' => ∀ w', C w' → wpList P l.toArray Q (l.drop n) a' w') (l.take n) a) : (Code.region id l.toArray true).wp P Q a w := by
  simp only [Region.lexTailB, Bool.and_eq_true, decide_eq_true_eq] at hB
  obtain ⟨⟨⟨⟨hsel, hn⟩, hs⟩, hc⟩, hlex⟩ := hB
  have hn' : n < l.length := by simpa using hn
  have htl : (l.take n).length = n := by simp; omega
  have hdl : (l.drop n).length = l.toArray.size - n := by simp
  have inv0 : HeadInv .any l.toArray n (Array.replicate l.toArray.size false) :=
    ⟨by simp, fun j oj _ hl => (by rw [getD_replicate_false] at hl; cases hl), fun t _ ht => getD_in (by simpa using ht) (getD_replicate_false _ _)⟩
  have H := wpAnyCL_lex (C := C) (S := S) (md := .any) (g := l.toArray.size - n) ⟨_, hC⟩ hsel hs hc hn (l.take n) 0 _ a (fun j hj => by
    have hj' : j < n := by rw [htl] at hj; exact hj
    simp [hj']) (by simpa using htl) inv0 (by rw [htl]; exact hlex) h
  refine wp_region_any hm ?_
  have := wpAny_of_calmHead (S := S) (Q' := Q) (g := l.toArray.size - n) (fun listed a' w' hw' hL => by
    have := wpAny_of_seq (md := .any) (Q' := Q) (l.drop n) n listed a' w' (fun j => by simp [List.getElem?_drop]) (by rw [hdl]; exact hL.1) (hL.2 w' hw')
    rwa [hdl] at this) _ _ _ _ hC H
  rw [htl, show n + (l.toArray.size - n) = l.toArray.size by omega] at this
  exact this
theorem calmUpon_value_eq {K : Value → Prop} {u : Value} {w : World} : calmUpon P C S K (.ok (.value u) w) = (C w ∧ K u) := rfl
attribute [irreducible] wpCalm calmUpon
attribute [go_sem] calmUpon_value_eq
end
end Go.Proofs.Ytapilgbbkbfcbaa
