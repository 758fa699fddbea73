/- Words for walks: floats as one number each, a class of worlds 'nothing old has turned', calm steps. No condition. -/
import Derived.Test.YtapilgbbkbfcbaaProg
import Derived.Test.YtapilgbbkbfcbaaCalm
import Derived.Test.YtapilgbbkbfcbaaFlt
import Derived.WalkKit
import Derived.WalkLawsBesides
import Derived.Lib.Hide
import Derived.Deep.Draws
namespace Go.Proofs.Ytapilgbbkbfcbaa
open Go Go.RowKit

/-! ### Comparisons of floats, by name -/
theorem flt_gt (a b : Nat) : (Ieee.double.order a b == some .gt) = flt b a := by
  unfold flt Ieee.Format.order
  cases Ieee.double.read a <;> cases Ieee.double.read b <;> simp only [Ieee.Datum.order] <;> try rfl
  · rename_i s m i t n j
    rw [show min j i = min i j by omega]
    generalize Ieee.signed s m (i - min i j).toNat = x
    generalize Ieee.signed t n (j - min i j).toNat = y
    simp only [compare, compareOfLessAndEq]
    by_cases h1 : x < y
    · rw [if_pos h1, if_neg (by omega), if_neg (by omega)]; rfl
    · by_cases h2 : x = y
      · rw [if_neg h1, if_pos h2, if_neg (by omega), if_pos h2.symm]; rfl
      · rw [if_neg h1, if_neg h2, if_pos (by omega)]; rfl
  all_goals first | rfl | (split <;> rfl) | (rename_i s t; cases s <;> cases t <;> rfl)
@[go_sem ↓] theorem cmp_eql (t : TypeId) (a b : Nat) : binOp .eql t (.float .f64 a) (.float .f64 b) = pure (.bool (feq a b)) := by simp [binOp, Op.floatCmp, feq, FloatKind.format]
@[go_sem ↓] theorem cmp_neq (t : TypeId) (a b : Nat) : binOp .neq t (.float .f64 a) (.float .f64 b) = pure (.bool (!feq a b)) := by simp [binOp, Op.floatCmp, feq, FloatKind.format, bne]
@[go_sem ↓] theorem cmp_lss (t : TypeId) (a b : Nat) : binOp .lss t (.float .f64 a) (.float .f64 b) = pure (.bool (flt a b)) := by simp [binOp, Op.floatCmp, flt, FloatKind.format]
@[go_sem ↓] theorem cmp_leq (t : TypeId) (a b : Nat) : binOp .leq t (.float .f64 a) (.float .f64 b) = pure (.bool (fle a b)) := by simp [binOp, Op.floatCmp, fle, FloatKind.format]
@[go_sem ↓] theorem cmp_gtr (t : TypeId) (a b : Nat) : binOp .gtr t (.float .f64 a) (.float .f64 b) = pure (.bool (flt b a)) := by rw [← flt_gt]; simp [binOp, Op.floatCmp, FloatKind.format]
theorem fle_ge (a b : Nat) : (Ieee.double.order a b == some .gt || Ieee.double.order a b == some .eq) = fle b a := by
  rw [flt_gt]
  have h : (Ieee.double.order a b == some .eq) = (Ieee.double.order b a == some .eq) := by
    unfold Ieee.Format.order
    cases Ieee.double.read a <;> cases Ieee.double.read b <;> simp only [Ieee.Datum.order] <;> try rfl
    · rename_i s m i t n j
      rw [show min j i = min i j by omega]
      generalize Ieee.signed s m (i - min i j).toNat = x
      generalize Ieee.signed t n (j - min i j).toNat = y
      simp only [compare, compareOfLessAndEq]
      by_cases h1 : x < y
      · rw [if_pos h1, if_neg (by omega), if_neg (by omega)]; rfl
      · by_cases h2 : x = y
        · rw [if_neg h1, if_pos h2, if_neg (by omega), if_pos h2.symm]
        · rw [if_neg h1, if_neg h2, if_pos (by omega)]; rfl
    all_goals first | rfl | (split <;> rfl) | (rename_i s t; cases s <;> cases t <;> rfl)
  rw [h]; rfl
@[go_sem ↓] theorem cmp_geq (t : TypeId) (a b : Nat) : binOp .geq t (.float .f64 a) (.float .f64 b) = pure (.bool (fle b a)) := by rw [← fle_ge]; simp [binOp, Op.floatCmp, FloatKind.format]

@[go_sem] theorem run_store_float (P : Program) (w : World) (a : Addr) (m : Mode) (k : FloatKind) (n : Nat) : (store a (.float k n) m).run P w = stored P w a (.float k n) m := run_store P w a _ m rfl
/-! ### Operations on floats: what is left is a number r of 64 bits that is, NaNs as one, the operation's -/
theorem nan_cut (t : Nat) (x y : Nat) : isN ((Question.nanBits .f64 x y).cut t) = true ∧ (Question.nanBits .f64 x y).cut t < 18446744073709551616 := by
  simp only [Question.cut]
  constructor
  · have h : t / 2 % (2 ^ 52 - 1) < 4503599627370495 := Nat.mod_lt _ (by decide)
    generalize t / 2 % (2 ^ 52 - 1) = y at h
    have h2 : t % 2 = 0 ∨ t % 2 = 1 := by omega
    simp only [isN, decide_eq_true_eq, Nat.reducePow]
    rcases h2 with h2 | h2 <;> rw [h2] <;> omega
  · omega
theorem run_fop (P : Program) (op : BinOp) (t : TypeId) (x y : Nat) (w : World) (f : Nat → Nat → Option Nat)
    (hop : Op.floatArith op .f64 x y = (do match f x y with | some r => pure (.float .f64 r) | none => pure (.float .f64 (← choose (.nanBits .f64 x y)))))
    (hb : binOp op t (.float .f64 x) (.float .f64 y) = Op.floatArith op .f64 x y)
    (hlt : ∀ r, f x y = some r → r < 18446744073709551616 ∧ isN r = false) :
    ∃ r n, (binOp op t (.float .f64 x) (.float .f64 y)).run P w = .ok (.float .f64 r) (w.drewN n) ∧ r < 18446744073709551616 ∧ cn r = (f x y).getD NANB := by
  rw [hb, hop]
  cases h : f x y with
  | some r => exact ⟨r, 0, by simp [pure, World.drewN], (hlt r h).1, by simp [cn_of (hlt r h).2]⟩
  | none =>
    obtain ⟨h1, h2⟩ := nan_cut (w.tape w.drawn (.nanBits .f64 x y)) x y
    refine ⟨_, 1, ?_, h2, by simp [cn_nan h1]⟩
    simp [choose, Sem.run, Question.forced, World.drewN, pure]
theorem run_fadd (P : Program) (t : TypeId) (x y : Nat) (w : World) : ∃ r n, (binOp .add t (.float .f64 x) (.float .f64 y)).run P w = .ok (.float .f64 r) (w.drewN n) ∧ r < 18446744073709551616 ∧ cn r = fadd x y :=
  run_fop P .add t x y w Ieee.double.add (by simp [Op.floatArith, FloatKind.format]; rfl) (by simp [binOp]) (fun r h => ⟨Ieee.Format.add_lt _ h, add_notN h⟩)
theorem run_fsub (P : Program) (t : TypeId) (x y : Nat) (w : World) : ∃ r n, (binOp .sub t (.float .f64 x) (.float .f64 y)).run P w = .ok (.float .f64 r) (w.drewN n) ∧ r < 18446744073709551616 ∧ cn r = fsub x y :=
  run_fop P .sub t x y w Ieee.double.sub (by simp [Op.floatArith, FloatKind.format]; rfl) (by simp [binOp]) (fun r h => ⟨Ieee.Format.sub_lt _ h, sub_notN h⟩)
theorem run_fmul (P : Program) (t : TypeId) (x y : Nat) (w : World) : ∃ r n, (binOp .mul t (.float .f64 x) (.float .f64 y)).run P w = .ok (.float .f64 r) (w.drewN n) ∧ r < 18446744073709551616 ∧ cn r = fmul x y :=
  run_fop P .mul t x y w Ieee.double.mul (by simp [Op.floatArith, FloatKind.format]; rfl) (by simp [binOp]) (fun r h => ⟨Ieee.Format.mul_lt _ h, mul_notN h⟩)
theorem run_fdiv (P : Program) (t : TypeId) (x y : Nat) (w : World) : ∃ r n, (binOp .quo t (.float .f64 x) (.float .f64 y)).run P w = .ok (.float .f64 r) (w.drewN n) ∧ r < 18446744073709551616 ∧ cn r = fdiv x y :=
  run_fop P .quo t x y w Ieee.double.div (by simp [Op.floatArith, FloatKind.format]; rfl) (by simp [binOp]) (fun r h => ⟨Ieee.Format.div_lt _ h, div_notN h⟩)

section
variable {P : Program} {ops : Array Oper} {rest : List Oper} {o : Oper} {a : Act} {Q : Exit → Act → World → Prop} {w : World}
theorem wpList_run (hg : o.guard = none) {R : Value → World → Prop} (hr : ∃ v w', (execOp a.eval o).run P w = .ok (.value v) w' ∧ R v w') (hK : ∀ v w', R v w' → wpList P ops Q rest (a.put o.dst v) w') : wpList P ops Q (o :: rest) a w := by
  obtain ⟨v, w', h1, h2⟩ := hr
  refine wpList_plain hg fun K hK' => ?_
  unfold Oper.wp
  rw [h1]
  exact hK' _ _ (hK v w' h2)
/-- A sum, a difference, a product, a quotient of floats in a walk. -/
theorem wlfadd {d : Option Tmp} {t t' : TypeId} {X Y : Operand} {ty : TypeId} {p : String} {af : Array Edge} (x y : Nat) (hx : a.eval X = .float .f64 x) (hy : a.eval Y = .float .f64 y)
    (hK : ∀ r n, r < 18446744073709551616 → cn r = fadd x y → wpList P ops Q rest (a.put d (.float .f64 r)) (w.drewN n)) : wpList P ops Q (⟨d, .binOp .add t X Y t', ty, p, af, none⟩ :: rest) a w := by
  obtain ⟨r, n, h1, h2, h3⟩ := run_fadd P t x y w
  exact wpList_run rfl (R := fun v w' => v = .float .f64 r ∧ w' = w.drewN n) ⟨_, _, by simp [execOp, eqGuard, hx, hy, h1], rfl, rfl⟩ (fun v w' ⟨e1, e2⟩ => by subst e1; subst e2; exact hK r n h2 h3)
theorem wlfsub {d : Option Tmp} {t t' : TypeId} {X Y : Operand} {ty : TypeId} {p : String} {af : Array Edge} (x y : Nat) (hx : a.eval X = .float .f64 x) (hy : a.eval Y = .float .f64 y)
    (hK : ∀ r n, r < 18446744073709551616 → cn r = fsub x y → wpList P ops Q rest (a.put d (.float .f64 r)) (w.drewN n)) : wpList P ops Q (⟨d, .binOp .sub t X Y t', ty, p, af, none⟩ :: rest) a w := by
  obtain ⟨r, n, h1, h2, h3⟩ := run_fsub P t x y w
  exact wpList_run rfl (R := fun v w' => v = .float .f64 r ∧ w' = w.drewN n) ⟨_, _, by simp [execOp, eqGuard, hx, hy, h1], rfl, rfl⟩ (fun v w' ⟨e1, e2⟩ => by subst e1; subst e2; exact hK r n h2 h3)
theorem wlfmul {d : Option Tmp} {t t' : TypeId} {X Y : Operand} {ty : TypeId} {p : String} {af : Array Edge} (x y : Nat) (hx : a.eval X = .float .f64 x) (hy : a.eval Y = .float .f64 y)
    (hK : ∀ r n, r < 18446744073709551616 → cn r = fmul x y → wpList P ops Q rest (a.put d (.float .f64 r)) (w.drewN n)) : wpList P ops Q (⟨d, .binOp .mul t X Y t', ty, p, af, none⟩ :: rest) a w := by
  obtain ⟨r, n, h1, h2, h3⟩ := run_fmul P t x y w
  exact wpList_run rfl (R := fun v w' => v = .float .f64 r ∧ w' = w.drewN n) ⟨_, _, by simp [execOp, eqGuard, hx, hy, h1], rfl, rfl⟩ (fun v w' ⟨e1, e2⟩ => by subst e1; subst e2; exact hK r n h2 h3)
theorem wlfdiv {d : Option Tmp} {t t' : TypeId} {X Y : Operand} {ty : TypeId} {p : String} {af : Array Edge} (x y : Nat) (hx : a.eval X = .float .f64 x) (hy : a.eval Y = .float .f64 y)
    (hK : ∀ r n, r < 18446744073709551616 → cn r = fdiv x y → wpList P ops Q rest (a.put d (.float .f64 r)) (w.drewN n)) : wpList P ops Q (⟨d, .binOp .quo t X Y t', ty, p, af, none⟩ :: rest) a w := by
  obtain ⟨r, n, h1, h2, h3⟩ := run_fdiv P t x y w
  exact wpList_run rfl (R := fun v w' => v = .float .f64 r ∧ w' = w.drewN n) ⟨_, _, by simp [execOp, eqGuard, hx, hy, h1], rfl, rfl⟩ (fun v w' ⟨e1, e2⟩ => by subst e1; subst e2; exact hK r n h2 h3)
end

/-! ### Calm steps -/
/-- Nothing that was there has turned. -/
def BL (W w : World) : Prop := Below W.heap.size W w
theorem BL.refl (W : World) : BL W W := Below.refl _ _
theorem BL.drew {W w : World} (h : BL W w) : BL W w.drew := Below.drew h
theorem BL.drewN {W w : World} (h : BL W w) (n : Nat) : BL W (w.drewN n) := ⟨h.os, h.tape, h.output, h.size, h.block⟩
theorem BL.call {W w w' : World} (h : BL W w) (h' : Below w.heap.size w w') : BL W w' := Below.trans h (h'.mono h.size)
theorem BL.cell {W w : World} (h : BL W w) {a : Addr} {v : Value} (hc : W.cell? a = some v) : w.cell? a = some v := (Below.cell h (World.block_lt_of_cell? W a hc)).trans hc
theorem BL.row {W w : World} (h : BL W w) {r : Nat} {o : Obj} (hc : W.heap[r]? = some o) : w.heap[r]? = some o := (h.block r (Array.getElem?_eq_some_iff.1 hc).1).trans hc
theorem BL.frozen {W w : World} (h : BL W w) {a : Addr} (hc : a.block < W.heap.size) : w.frozen? a = W.frozen? a := Below.frozen h hc

section
variable {P : Program} {ops : Array Oper} {rest : List Oper} {o : Oper} {a : Act} {C : World → Prop} {S : FuncId → Array Value → Value → Prop} {Q : Act → Prop}
theorem cw_step (hg : o.guard = none) (h : ∀ K : Act → Prop, (∀ a, wpCalm P ops C S Q rest a → K a) → ∀ w', C w' → calmUpon P C S (fun v => K (a.put o.dst v)) ((execOp a.eval o).run P w')) : wpCalm P ops C S Q (o :: rest) a :=
  wpCalm_step fun K hK => by rw [if_pos (by simp [Region.wanted, hg])]; exact fun w' hw => h K hK w' hw
theorem cw_val (hg : o.guard = none) (v : Value) (hr : ∀ w, C w → (execOp a.eval o).run P w = .ok (.value v) w) (h : wpCalm P ops C S Q rest (a.put o.dst v)) : wpCalm P ops C S Q (o :: rest) a :=
  cw_step hg fun K hK w' hw => by rw [hr w' hw]; exact calmUpon_value hw (hK _ h)
end
theorem gen_world {P : Program} {c : Code} {Q : Exit → Act → World → Prop} {a : Act} {w : World} (h : ∀ W, W = w → c.wp P Q a W) : c.wp P Q a w := h w rfl
theorem new_row (w : World) (o : Obj) : (w.alloc o).heap[w.heap.size]? = some o := by show (w.heap.push o)[w.heap.size]? = _; simp
theorem cells_of {w : World} {r : Nat} {cs : Array Value} {T : TypeId} {z : Nat × Nat} (h : w.heap[r]? = some (.cells cs T z)) : ∀ i, w.cell? ⟨r, i, none⟩ = cs[i]? := fun i => by simp [World.cell?, h]

section
variable {P : Program} {ops : Array Oper} {rest : List Oper} {o : Oper} {a : Act} {C : World → Prop} {S : FuncId → Array Value → Value → Prop} {Q : Act → Prop}
/-- One operation, what is left in its slot behind a name. -/
theorem cw_F (hg : o.guard = none) (h : ∀ F : Value → Prop, (∀ v, wpCalm P ops C S Q rest (a.put o.dst v) → F v) → ∀ w', C w' → calmUpon P C S F ((execOp a.eval o).run P w')) : wpCalm P ops C S Q (o :: rest) a :=
  wpCalm_step fun K hK => by rw [if_pos (by simp [Region.wanted, hg])]; exact fun w' hw => h _ (fun v hv => hK _ hv) w' hw
/-- A guarded one that is wanted; that isn't. -/
theorem cw_G (hg : Region.wanted o (yielded ops a.tmps) = true) (h : ∀ F : Value → Prop, (∀ v, wpCalm P ops C S Q rest (a.put o.dst v) → F v) → ∀ w', C w' → calmUpon P C S F ((execOp a.eval o).run P w')) : wpCalm P ops C S Q (o :: rest) a :=
  wpCalm_step fun K hK => by rw [if_pos hg]; exact fun w' hw => h _ (fun v hv => hK _ hv) w' hw
theorem cw_N (hg : Region.wanted o (yielded ops a.tmps) = false) (h : wpCalm P ops C S Q rest (a.put o.dst undef)) : wpCalm P ops C S Q (o :: rest) a :=
  wpCalm_step fun K hK => by rw [if_neg (by rw [hg]; simp)]; exact hK _ h
theorem cw_fop (hg : o.guard = none) (op : BinOp) (t t' : TypeId) (X Y : Operand) (hop : o.op = Op.binOp op t X Y t') (hne : op ≠ .eql ∧ op ≠ .neq) (x y : Nat) (hx : a.eval X = .float .f64 x) (hy : a.eval Y = .float .f64 y) (F : Nat → Nat → Nat)
    (hF : ∀ w, ∃ r n, (binOp op t (.float .f64 x) (.float .f64 y)).run P w = .ok (.float .f64 r) (w.drewN n) ∧ r < 18446744073709551616 ∧ cn r = F x y)
    (hD : ∀ w n, C w → C (w.drewN n)) (h : ∀ r, r < 18446744073709551616 → cn r = F x y → wpCalm P ops C S Q rest (a.put o.dst (.float .f64 r))) : wpCalm P ops C S Q (o :: rest) a :=
  cw_F hg fun G hG w' hw => by
    obtain ⟨r, n, h1, h2, h3⟩ := hF w'
    have e : (execOp a.eval o).run P w' = .ok (.value (.float .f64 r)) (w'.drewN n) := by simp [execOp, eqGuard, hop, hx, hy, h1, hne.1, hne.2]
    rw [e]
    exact calmUpon_value (hD _ _ hw) (hG _ (h r h2 h3))
/-- The same of an operation written out. -/
theorem cwF {d : Option Tmp} {op : Op} {ty : TypeId} {p : String} {af : Array Edge} (h : ∀ F : Value → Prop, (∀ v, wpCalm P ops C S Q rest (a.put d v) → F v) → ∀ w', C w' → calmUpon P C S F ((execOp a.eval ⟨d, op, ty, p, af, none⟩).run P w')) : wpCalm P ops C S Q (⟨d, op, ty, p, af, none⟩ :: rest) a := cw_F rfl h
theorem cwfadd {d : Option Tmp} {t t' : TypeId} {X Y : Operand} {ty : TypeId} {p : String} {af : Array Edge} (x y : Nat) (hx : a.eval X = .float .f64 x) (hy : a.eval Y = .float .f64 y) (hD : ∀ w n, C w → C (w.drewN n))
    (h : ∀ r, r < 18446744073709551616 → cn r = fadd x y → wpCalm P ops C S Q rest (a.put d (.float .f64 r))) : wpCalm P ops C S Q (⟨d, .binOp .add t X Y t', ty, p, af, none⟩ :: rest) a := cw_fop rfl .add t t' X Y rfl (by decide) x y hx hy fadd (run_fadd P t x y) hD h
theorem cwfsub {d : Option Tmp} {t t' : TypeId} {X Y : Operand} {ty : TypeId} {p : String} {af : Array Edge} (x y : Nat) (hx : a.eval X = .float .f64 x) (hy : a.eval Y = .float .f64 y) (hD : ∀ w n, C w → C (w.drewN n))
    (h : ∀ r, r < 18446744073709551616 → cn r = fsub x y → wpCalm P ops C S Q rest (a.put d (.float .f64 r))) : wpCalm P ops C S Q (⟨d, .binOp .sub t X Y t', ty, p, af, none⟩ :: rest) a := cw_fop rfl .sub t t' X Y rfl (by decide) x y hx hy fsub (run_fsub P t x y) hD h
theorem cwfmul {d : Option Tmp} {t t' : TypeId} {X Y : Operand} {ty : TypeId} {p : String} {af : Array Edge} (x y : Nat) (hx : a.eval X = .float .f64 x) (hy : a.eval Y = .float .f64 y) (hD : ∀ w n, C w → C (w.drewN n))
    (h : ∀ r, r < 18446744073709551616 → cn r = fmul x y → wpCalm P ops C S Q rest (a.put d (.float .f64 r))) : wpCalm P ops C S Q (⟨d, .binOp .mul t X Y t', ty, p, af, none⟩ :: rest) a := cw_fop rfl .mul t t' X Y rfl (by decide) x y hx hy fmul (run_fmul P t x y) hD h
theorem cwfdiv {d : Option Tmp} {t t' : TypeId} {X Y : Operand} {ty : TypeId} {p : String} {af : Array Edge} (x y : Nat) (hx : a.eval X = .float .f64 x) (hy : a.eval Y = .float .f64 y) (hD : ∀ w n, C w → C (w.drewN n))
    (h : ∀ r, r < 18446744073709551616 → cn r = fdiv x y → wpCalm P ops C S Q rest (a.put d (.float .f64 r))) : wpCalm P ops C S Q (⟨d, .binOp .quo t X Y t', ty, p, af, none⟩ :: rest) a := cw_fop rfl .quo t t' X Y rfl (by decide) x y hx hy fdiv (run_fdiv P t x y) hD h
end
/-- A call that leaves what was there: one value. -/
theorem calm_call {P : Program} {S : FuncId → Array Value → Value → Prop} {W w : World} {f : FuncId} {args : Array Value} {F : Value → Prop} {v : Value} (hi : P.inits.idxOf? f = none) (hw : BL W w)
    (h : Calls P f args w (fun e w' => e = .returned v ∧ Below w.heap.size w w')) (hF : F v) : calmUpon P (BL W) S F (.ok (.enter f args) w) :=
  calmUpon_one hi (h.mono fun _ _ ⟨he, hb⟩ => ⟨he, hw.call hb⟩) hF
/-- Operations that leave a value, or nothing. -/
def valOp : Op → Bool
  | .move _ | .assign _ | .load .. | .binOp .. | .unOp .. | .fieldAddr .. | .field .. | .indexAddr .. | .index .. | .extract .. | .convert .. | .build .. | .slice .. => true
  | _ => false
theorem valOp_run {P : Program} {ρ : Operand → Value} {o : Oper} (h : valOp o.op = true) {w w' : World} {n : Next} (hr : (execOp ρ o).run P w = .ok n w') : ∃ u, n = .value u := by
  obtain ⟨d, op, ty, p, af, g⟩ := o
  have key : ∀ (s : Sem Value), (s >>= fun a => (pure (.value a) : Sem Next)).run P w = .ok n w' → ∃ u, n = .value u := by
    intro s hs
    rw [Sem.run_bind] at hs
    cases hx : s.run P w with
    | ok a w1 => rw [hx] at hs; simp [Result.andThen] at hs; exact ⟨a, hs.1.symm⟩
    | halt x w1 => rw [hx] at hs; simp [Result.andThen] at hs
  cases op <;> first | (cases h; done) | skip
  case move x => exact ⟨_, by simp only [execOp] at hr; cases hr; rfl⟩
  case assign x => exact ⟨_, by simp only [execOp] at hr; cases hr; rfl⟩
  all_goals exact key _ hr
section
variable {P : Program} {ops : Array Oper} {rest : List Oper} {o : Oper} {a : Act} {C : World → Prop} {S : FuncId → Array Value → Value → Prop} {Q : Act → Prop}
/-- A calm step by the walk's own. -/
theorem cwW {d : Option Tmp} {op : Op} {ty : TypeId} {p : String} {af : Array Edge} (hv : valOp op = true)
    (h : ∀ K : Act → World → Prop, (∀ a w, C w → wpCalm P ops C S Q rest a → K a w) → ∀ w', C w' → Oper.wp P ⟨d, op, ty, p, af, none⟩ a w' K (fun _ _ _ => False)) : wpCalm P ops C S Q (⟨d, op, ty, p, af, none⟩ :: rest) a :=
  cw_F rfl fun F hF w' hw => by
    have h1 := h (fun a w => C w ∧ wpCalm P ops C S Q rest a) (fun a w h1 h2 => ⟨h1, h2⟩) w' hw
    unfold Oper.wp at h1
    cases hr : (execOp a.eval ⟨d, op, ty, p, af, none⟩).run P w' with
    | ok n w1 =>
      obtain ⟨u, rfl⟩ := valOp_run (o := ⟨d, op, ty, p, af, none⟩) hv hr
      rw [hr] at h1
      exact calmUpon_value h1.1 (hF _ h1.2)
    | halt x w1 =>
      rw [hr] at h1
      cases x <;> exact h1.elim
end
theorem cwnil {P : Program} {ops : Array Oper} {rest : List Oper} {a : Act} {C : World → Prop} {S : FuncId → Array Value → Value → Prop} {Q : Act → Prop} {d : Option Tmp} {X : Operand} {ty : TypeId} {p : String} {af : Array Edge} (ad : Addr) (hx : a.eval X = .pointer (some ad))
    (h : wpCalm P ops C S Q rest (a.put d (.pointer (some ad)))) : wpCalm P ops C S Q (⟨d, .nilCheck X, ty, p, af, none⟩ :: rest) a :=
  cw_F rfl fun F hF w' hw => by
    have e : (execOp a.eval ⟨d, .nilCheck X, ty, p, af, none⟩).run P w' = .ok (.value (.pointer (some ad))) w' := by simp [execOp, hx]
    rw [e]
    exact calmUpon_value hw (hF _ h)
theorem put_lit (l : List Value) (ds : List Deferred) (d : Nat) (v : Value) : (⟨l.toArray, ds⟩ : Act).put (some d) v = ⟨(l.set d v).toArray, ds⟩ := by simp [Act.put]
/-! ### The same against a frame that is written out -/
theorem eval_lit (l : List Value) (ds : List Deferred) (k : Nat) (v : Value) (h : l[k]? = some v) : (⟨l.toArray, ds⟩ : Act).eval (.tmp k) = v := by
  simp [Act.eval, h]
section
variable {P : Program} {ops : Array Oper} {rest : List Oper} {o : Oper} {l : List Value} {ds : List Deferred} {C : World → Prop} {S : FuncId → Array Value → Value → Prop} {Q : Act → Prop} {R : Exit → Act → World → Prop} {w : World} {d : Nat} {t t' : TypeId} {j k : Nat} {ty : TypeId} {p : String} {af : Array Edge}
theorem cmNil (ad : Addr) (hx : l[k]? = some (.pointer (some ad))) (h : wpCalm P ops C S Q rest ⟨(l.set d (.pointer (some ad))).toArray, ds⟩) : wpCalm P ops C S Q (⟨some d, .nilCheck (.tmp k), ty, p, af, none⟩ :: rest) ⟨l.toArray, ds⟩ :=
  cwnil ad (eval_lit _ _ _ _ hx) (by rw [put_lit]; exact h)
theorem cmMove (v : Value) (hx : l[k]? = some v) (h : wpCalm P ops C S Q rest ⟨(l.set d v).toArray, ds⟩) : wpCalm P ops C S Q (⟨some d, .move (.tmp k), ty, p, af, none⟩ :: rest) ⟨l.toArray, ds⟩ :=
  cw_val rfl v (fun w _ => by simp only [execOp, eval_lit _ _ _ _ hx]; rfl) (by rw [← put_lit] at h; exact h)
theorem cmAssign (v : Value) (hx : l[k]? = some v) (h : wpCalm P ops C S Q rest ⟨(l.set d v).toArray, ds⟩) : wpCalm P ops C S Q (⟨some d, .assign (.tmp k), ty, p, af, none⟩ :: rest) ⟨l.toArray, ds⟩ :=
  cw_val rfl v (fun w _ => by simp only [execOp, eval_lit _ _ _ _ hx]; rfl) (by rw [← put_lit] at h; exact h)
theorem cmFadd (x y : Nat) (hx : l[j]? = some (.float .f64 x)) (hy : l[k]? = some (.float .f64 y)) (hD : ∀ w n, C w → C (w.drewN n))
    (h : ∀ r, r < 18446744073709551616 → cn r = fadd x y → wpCalm P ops C S Q rest ⟨(l.set d (.float .f64 r)).toArray, ds⟩) : wpCalm P ops C S Q (⟨some d, .binOp .add t (.tmp j) (.tmp k) t', ty, p, af, none⟩ :: rest) ⟨l.toArray, ds⟩ :=
  cwfadd x y (eval_lit _ _ _ _ hx) (eval_lit _ _ _ _ hy) hD (fun r h1 h2 => by rw [put_lit]; exact h r h1 h2)
theorem wmFadd (x y : Nat) (hx : l[j]? = some (.float .f64 x)) (hy : l[k]? = some (.float .f64 y))
    (h : ∀ r n, r < 18446744073709551616 → cn r = fadd x y → wpList P ops R rest ⟨(l.set d (.float .f64 r)).toArray, ds⟩ (w.drewN n)) : wpList P ops R (⟨some d, .binOp .add t (.tmp j) (.tmp k) t', ty, p, af, none⟩ :: rest) ⟨l.toArray, ds⟩ w :=
  wlfadd x y (eval_lit _ _ _ _ hx) (eval_lit _ _ _ _ hy) (fun r n h1 h2 => by rw [put_lit]; exact h r n h1 h2)
theorem cmFsub (x y : Nat) (hx : l[j]? = some (.float .f64 x)) (hy : l[k]? = some (.float .f64 y)) (hD : ∀ w n, C w → C (w.drewN n))
    (h : ∀ r, r < 18446744073709551616 → cn r = fsub x y → wpCalm P ops C S Q rest ⟨(l.set d (.float .f64 r)).toArray, ds⟩) : wpCalm P ops C S Q (⟨some d, .binOp .sub t (.tmp j) (.tmp k) t', ty, p, af, none⟩ :: rest) ⟨l.toArray, ds⟩ :=
  cwfsub x y (eval_lit _ _ _ _ hx) (eval_lit _ _ _ _ hy) hD (fun r h1 h2 => by rw [put_lit]; exact h r h1 h2)
theorem wmFsub (x y : Nat) (hx : l[j]? = some (.float .f64 x)) (hy : l[k]? = some (.float .f64 y))
    (h : ∀ r n, r < 18446744073709551616 → cn r = fsub x y → wpList P ops R rest ⟨(l.set d (.float .f64 r)).toArray, ds⟩ (w.drewN n)) : wpList P ops R (⟨some d, .binOp .sub t (.tmp j) (.tmp k) t', ty, p, af, none⟩ :: rest) ⟨l.toArray, ds⟩ w :=
  wlfsub x y (eval_lit _ _ _ _ hx) (eval_lit _ _ _ _ hy) (fun r n h1 h2 => by rw [put_lit]; exact h r n h1 h2)
theorem cmFmul (x y : Nat) (hx : l[j]? = some (.float .f64 x)) (hy : l[k]? = some (.float .f64 y)) (hD : ∀ w n, C w → C (w.drewN n))
    (h : ∀ r, r < 18446744073709551616 → cn r = fmul x y → wpCalm P ops C S Q rest ⟨(l.set d (.float .f64 r)).toArray, ds⟩) : wpCalm P ops C S Q (⟨some d, .binOp .mul t (.tmp j) (.tmp k) t', ty, p, af, none⟩ :: rest) ⟨l.toArray, ds⟩ :=
  cwfmul x y (eval_lit _ _ _ _ hx) (eval_lit _ _ _ _ hy) hD (fun r h1 h2 => by rw [put_lit]; exact h r h1 h2)
theorem wmFmul (x y : Nat) (hx : l[j]? = some (.float .f64 x)) (hy : l[k]? = some (.float .f64 y))
    (h : ∀ r n, r < 18446744073709551616 → cn r = fmul x y → wpList P ops R rest ⟨(l.set d (.float .f64 r)).toArray, ds⟩ (w.drewN n)) : wpList P ops R (⟨some d, .binOp .mul t (.tmp j) (.tmp k) t', ty, p, af, none⟩ :: rest) ⟨l.toArray, ds⟩ w :=
  wlfmul x y (eval_lit _ _ _ _ hx) (eval_lit _ _ _ _ hy) (fun r n h1 h2 => by rw [put_lit]; exact h r n h1 h2)
theorem cmFdiv (x y : Nat) (hx : l[j]? = some (.float .f64 x)) (hy : l[k]? = some (.float .f64 y)) (hD : ∀ w n, C w → C (w.drewN n))
    (h : ∀ r, r < 18446744073709551616 → cn r = fdiv x y → wpCalm P ops C S Q rest ⟨(l.set d (.float .f64 r)).toArray, ds⟩) : wpCalm P ops C S Q (⟨some d, .binOp .quo t (.tmp j) (.tmp k) t', ty, p, af, none⟩ :: rest) ⟨l.toArray, ds⟩ :=
  cwfdiv x y (eval_lit _ _ _ _ hx) (eval_lit _ _ _ _ hy) hD (fun r h1 h2 => by rw [put_lit]; exact h r h1 h2)
theorem wmFdiv (x y : Nat) (hx : l[j]? = some (.float .f64 x)) (hy : l[k]? = some (.float .f64 y))
    (h : ∀ r n, r < 18446744073709551616 → cn r = fdiv x y → wpList P ops R rest ⟨(l.set d (.float .f64 r)).toArray, ds⟩ (w.drewN n)) : wpList P ops R (⟨some d, .binOp .quo t (.tmp j) (.tmp k) t', ty, p, af, none⟩ :: rest) ⟨l.toArray, ds⟩ w :=
  wlfdiv x y (eval_lit _ _ _ _ hx) (eval_lit _ _ _ _ hy) (fun r n h1 h2 => by rw [put_lit]; exact h r n h1 h2)
/-- A call in a calm walk: the run up to it is 'rfl'-free: the callee and what is handed over are given. -/
theorem cmCall {W : World} {xs : Array Operand} {ats : Array TypeId} {f : FuncId} (args : Array Value) (v : Value) (hb : ∀ w, BL W w → (execOp (⟨l.toArray, ds⟩ : Act).eval ⟨some d, .call { callee := .value (.func f), args := xs, argTypes := ats }, ty, p, af, none⟩).run P w = .ok (.enter f args) w)
    (hi : P.inits.idxOf? f = none) (hc : ∀ w, BL W w → Calls P f args w (fun e w' => e = .returned v ∧ Below w.heap.size w w'))
    (h : wpCalm P ops (BL W) S Q rest ⟨(l.set d v).toArray, ds⟩) : wpCalm P ops (BL W) S Q (⟨some d, .call { callee := .value (.func f), args := xs, argTypes := ats }, ty, p, af, none⟩ :: rest) ⟨l.toArray, ds⟩ :=
  cw_F rfl fun F hF w' hw => by
    rw [hb w' hw]
    exact calm_call hi hw (hc w' hw) (hF _ (by rw [put_lit]; exact h))
end
end Go.Proofs.Ytapilgbbkbfcbaa
