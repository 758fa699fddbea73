/- Layer 7: matrices times vectors, its parts: what the code computes. -/
import Derived.Test.YtapilgbbkbfcbaaS3
namespace Go.Proofs.Ytapilgbbkbfcbaa
open Go Go.RowKit

section
variable {P : Program} {ops : Array Oper} {rest : List Oper} {a : Act} {C : World → Prop} {S : FuncId → Array Value → Value → Prop} {Q : Act → Prop} {d : Option Tmp} {op : Op} {ty : TypeId} {p : String} {af : Array Edge} {g : Nat × Bool}
/-- Guarded operations of a calm walk: passed over; wanted. -/
theorem cwSkip (hg : Region.wanted ⟨d, op, ty, p, af, some g⟩ (yielded ops a.tmps) = false) (h : wpCalm P ops C S Q rest (a.put d undef)) : wpCalm P ops C S Q (⟨d, op, ty, p, af, some g⟩ :: rest) a := cw_N hg h
theorem cwFG (hg : Region.wanted ⟨d, op, ty, p, af, some g⟩ (yielded ops a.tmps) = true) (h : ∀ F : Value → Prop, (∀ v, wpCalm P ops C S Q rest (a.put d v) → F v) → ∀ w', C w' → calmUpon P C S F ((execOp a.eval ⟨d, op, ty, p, af, some g⟩).run P w')) : wpCalm P ops C S Q (⟨d, op, ty, p, af, some g⟩ :: rest) a := cw_G hg h
theorem cwWG (hg : Region.wanted ⟨d, op, ty, p, af, some g⟩ (yielded ops a.tmps) = true) (hv : valOp op = true)
    (h : ∀ K : Act → World → Prop, (∀ a w, C w → wpCalm P ops C S Q rest a → K a w) → ∀ w', C w' → Oper.wp P ⟨d, op, ty, p, af, some g⟩ a w' K (fun _ _ _ => False)) : wpCalm P ops C S Q (⟨d, op, ty, p, af, some g⟩ :: rest) a :=
  cw_G hg fun F hF w' hw => by
    have h1 := h (fun a w => C w ∧ wpCalm P ops C S Q rest a) (fun a w h1 h2 => ⟨h1, h2⟩) w' hw
    unfold Oper.wp at h1
    cases hr : (execOp a.eval ⟨d, op, ty, p, af, some g⟩).run P w' with
    | ok n w1 =>
      obtain ⟨u, rfl⟩ := valOp_run (o := ⟨d, op, ty, p, af, some g⟩) hv hr
      rw [hr] at h1
      exact calmUpon_value h1.1 (hF _ h1.2)
    | halt x w1 =>
      rw [hr] at h1
      cases x <;> exact h1.elim
/-- A pick among written values. -/
theorem cmPick {x y z : Operand} (c : Bool) (u v : Value) (hx : a.eval x = .bool c) (hy : a.eval y = u) (hz : a.eval z = v) (h : wpCalm P ops C S Q rest (a.put d (if c then u else v))) : wpCalm P ops C S Q (⟨d, .pick x y z, ty, p, af, none⟩ :: rest) a :=
  cw_F rfl fun F hF w' hw => by
    have e : (execOp a.eval ⟨d, .pick x y z, ty, p, af, none⟩).run P w' = .ok (.value (if c then u else v)) w' := by
      simp only [execOp, hx, hy, hz]; cases c <;> simp [asBool]
    rw [e]
    exact calmUpon_value hw (hF _ h)
end
theorem calm_callS {P : Program} {S : FuncId → Array Value → Value → Prop} {W w : World} {f : FuncId} {args : Array Value} {F : Value → Prop} (hi : P.inits.idxOf? f = none) (hw : BL W w)
    (h : Calls P f args w (fun e w' => ∃ u, e = .returned u ∧ S f args u ∧ Below w.heap.size w w')) (hF : ∀ u, S f args u → F u) : calmUpon P (BL W) S F (.ok (.enter f args) w) :=
  calmUpon_set hi (h.mono fun _ _ ⟨u, he, hs, hb⟩ => ⟨u, he, hs, hw.call hb⟩) hF

theorem fmul_cn' (a b : Nat) : fmul (cn a) b = fmul a b := by rw [← fmul_cn, cn_cn, fmul_cn]
theorem fadd_cn' (a b : Nat) : fadd (cn a) b = fadd a b := by rw [← fadd_cn, cn_cn, fadd_cn]
set_option maxRecDepth 100000
set_option maxHeartbeats 1000000 in
theorem gemv_row (A : Option Addr) (n c : Nat) (off N inc : Int) (w : World) :
    Calls Try.prog 123 #[.agg #[.slice A n c, .int .i64 off, .int .i64 N, .int .i64 inc]] w
      fun e w' => e = .returned (.agg #[.slice A n c, .int .i64 off, .int .i64 1, .int .i64 N, .int .i64 inc]) ∧ Below w.heap.size w w' := by
  go_enter Try.func123, Try.ntmps123
  go_wp2
  exact bodyPost_ret (v := .agg #[.slice A n c, .int .i64 off, .int .i64 1, .int .i64 N, .int .i64 inc]) (by simp [results, Try.results123, go_sem]) rfl ⟨rfl, by repeat (first | exact Below.refl _ _ | refine Below.setCell ?_ (by first | (simp; done) | (simp; omega)) _ | refine Below.alloc ?_ (by first | (simp; done) | (simp; omega)) _)⟩

set_option maxHeartbeats 1000000 in
theorem vat_calls (b o n c : Nat) (off N inc i : Int) (w : World) (h0 : 0 ≤ off + i * inc) (h1 : off + i * inc < n) (h2 : 0 ≤ i * inc) (h3 : 0 ≤ off) (hn : (n : Int) ≤ lim) :
    Calls Try.prog 124 #[.agg #[.slice (some ⟨b, o, none⟩) n c, .int .i64 off, .int .i64 N, .int .i64 inc], .int .i64 i] w
      fun e w' => e = .returned (.pointer (some ⟨b, o + (off + i * inc).toNat, none⟩)) ∧ Below w.heap.size w w' := by
  unfold lim at hn
  go_enter Try.func124, Try.ntmps124
  go_wp2
  go_ret
  exact ⟨rfl, (Below.refl _ _).alloc (Nat.le_refl _) _⟩

/-- What the closure computes. -/
theorem of_calls (a x v : Nat) (q : Addr) (w : World) (hq : w.cell? q = some (.float .f64 a)) (hq0 : q.spot = none) :
    Calls Try.prog 101 #[.float .f64 v, .float .f64 x, .pointer (some q)] w
      fun e w' => ∃ u, e = .returned u ∧ (∃ r, u = .float .f64 r ∧ r < 18446744073709551616 ∧ cn r = fmul (fmul a x) v) ∧ Below w.heap.size w w' := by
  obtain ⟨b, o, s⟩ := q
  simp only at hq0
  subst hq0
  go_enter Try.func101, Try.ntmps101
  go_wp2_with (first
    | (refine wmFmul (j := 6) _ _ (by rfl) (by rfl) (fun r1 n1 hr1 hc1 => ?_); have HC1 := Lib.hid hc1; clear hc1; simp only [List.set_cons_succ, List.set_cons_zero])
    | (refine wmFmul (j := 8) _ _ (by rfl) (by rfl) (fun r2 n2 hr2 hc2 => ?_); have HC2 := Lib.hid hc2; clear hc2; simp only [List.set_cons_succ, List.set_cons_zero]))
  go_ret
  refine ⟨_, rfl, ⟨r2, rfl, hr2, ?_⟩, ?_⟩
  · rw [HC2.out, ← HC1.out, fmul_cn']
  · repeat (first | exact Below.refl _ _ | refine BL.drewN ?_ _)

theorem WrB.drewN {a b : World} {g : Nat} {S : Nat → Prop} (h : WrB a b g S) (n : Nat) : WrB a (b.drewN n) g S := ⟨h.os, h.tape, h.output, h.size, h.other, h.row⟩
theorem XAt.drewN {w : World} {b o : Nat} {off inc : Int} {N : Nat} {X : Nat → Nat} (h : XAt w b o off inc N X) (n : Nat) : XAt (w.drewN n) b o off inc N X := h.later (BL.drewN (BL.refl w) n)
/-- A number that is begun. -/
def begV (b y : Nat) : Nat := if feq b 0 then 0 else fmul b y
/-- The first i numbers are begun. -/
def begN (b : Nat) (i : Nat) (Y : Nat → Nat) : Nat → Nat := fun k => if k < i then begV b (Y k) else Y k
theorem begN_more (b i : Nat) (Y : Nat → Nat) : begN b (i + 1) Y = upd (begN b i Y) i (begV b (Y i)) := by
  funext k; unfold begN upd; dsimp only
  by_cases h : k = i
  · subst h; simp
  · by_cases h2 : k < i
    · rw [if_pos (by omega), if_neg h, if_pos h2]
    · rw [if_neg (by omega), if_neg h, if_neg h2]

set_option maxHeartbeats 2000000 in
theorem begin_calls (bt : Nat) (b o n c : Nat) (off inc : Int) (N : Nat) (w : World) (Y : Nat → Nat) (hs : (n : Int) ≤ lim) (h3 : I64 inc) (hN : I64 N) (hg : rightP n off N inc) (hY : XAt w b o off inc N Y)
    (hf : ∀ k : Nat, k < N → w.frozen? ⟨b, o + (off + (k : Int) * inc).toNat, none⟩ = false) :
    Calls Try.prog 99 #[.float .f64 bt, .agg #[.slice (some ⟨b, o, none⟩) n c, .int .i64 off, .int .i64 N, .int .i64 inc]] w
      fun e w' => e = .returned (.tuple #[]) ∧ WrB w w' b (XS o off inc N) ∧ XAt w' b o off inc N (begN bt N Y) := by
  have hN9 : (N : Int) ≤ 9223372036854775807 := hN.2
  have HG := Lib.hid hg
  have hinc : 1 ≤ inc := hg.2.1
  have hoff : 0 ≤ off := hg.2.2.1
  have HY := Lib.hid hY
  have HF := Lib.hid hf
  clear hg hY hf
  have hbb : (FloatKind.f64.format.order bt 0 == some Ordering.eq) = true ∨ (FloatKind.f64.format.order bt 0 == some Ordering.eq) = false := by cases (FloatKind.f64.format.order bt 0 == some Ordering.eq) <;> simp
  rcases hbb with hb0 | hb0
  all_goals
    go_enter Try.func99, Try.ntmps99
    go_wp2
    refine gen_world (fun W hW => ?_)
    have hB : BL w W := by rw [hW]; exact (Below.refl _ _).alloc (Nat.le_refl _) _
    have hbx : W.heap[w.heap.size]? = some (.cells #[.slice (some ⟨b, o, none⟩) n c, .int .i64 off, .int .i64 N, .int .i64 inc] 87 (0, 0)) := by rw [hW]; exact new_row _ _
    clear hW
    have HYW := Lib.hid (HY.out.later hB)
    go_loopw [8] (fun iv wr => ∃ i : Nat, i ≤ N ∧ iv = .int .i64 i ∧ WrB W wr b (XS o off inc N) ∧ XAt wr b o off inc N (begN bt i Y)) (fun iv _ => (N - intOf iv).toNat)
    case atStart => exact ⟨0, Nat.zero_le _, rfl, WrB.refl _ _ _, by have : begN bt 0 Y = Y := (by funext k; simp [begN]); rw [this]; exact HYW.out⟩
    case round =>
      obtain ⟨i, hi, rfl, hwr, hxr⟩ := hrel
      by_cases hlt : i < N
      · obtain ⟨vi, hvi, hci, hvi2⟩ := hxr i hlt
        obtain ⟨v5, _, hc5, _⟩ := HY.out i hlt
        have hbw : b < w.heap.size := World.block_lt_of_cell? w _ hc5
        have hbs' := hwr.keep hbx (by omega)
        have hfz : wr.frozen? ⟨b, o + (off + (i : Int) * inc).toNat, none⟩ = false := by
          rw [hwr.frozen (hB.cell hc5), hB.frozen hbw]; exact HF.out i hlt
        obtain ⟨r1, r2, r3, r4⟩ := right_at (i := i) HG.out (by omega) (by omega)
        have HV := Lib.hid hvi2
        have HXR := Lib.hid hxr
        have HWR := Lib.hid hwr
        clear hvi2 hxr hwr hc5
        have kb := cells_of hbs'
        go_wp2_with (first | (refine wmFmul _ _ (by rfl) (by rfl) (fun r n1 hr hc1 => ?_); have HC1 := Lib.hid hc1; clear hc1; simp only [List.set_cons_succ, List.set_cons_zero]) | (go_at_call 124; refine (vat_calls _ _ _ _ _ _ _ _ _ (by omega) r3 r1 r2 hs).mono ?_; rintro e w6 ⟨rfl, hb6⟩; have hci6 := (show BL wr w6 from hb6).cell hci; have hfz6 : w6.frozen? ⟨b, o + (off + (i : Int) * inc).toNat, none⟩ = false := (by rw [(show BL wr w6 from hb6).frozen (World.block_lt_of_cell? _ _ hci)]; exact hfz)))
        all_goals
          have ei : begN bt i Y i = Y i := by simp [begN]
          go_roundw
          case rel =>
            refine ⟨i + 1, by omega, by go_num, ?_, ?_⟩
            · have hw7 := fun v => HWR.out.trans ((WrB.of_below hb6 _ _).trans (WrB.set w6 b (o + (off + (i : Int) * inc).toNat) (XS o off inc N) ⟨i, hlt, rfl⟩ v))
              first | exact hw7 _ | exact (hw7 _).drewN _
            · rw [begN_more]
              first
                | (have hx := HXR.out.put hb6 hoff hinc i 0 hlt (by decide)
                   rw [show cn 0 = 0 by decide] at hx
                   rw [show begV bt (Y i) = 0 from if_pos hb0]
                   exact hx)
                | (have hx := HXR.out.put hb6 hoff hinc i r hlt hr
                   rw [HC1.out] at hx
                   rw [show begV bt (Y i) = fmul bt (Y i) from if_neg (by unfold feq; rw [show (Ieee.double.order bt 0 == some Ordering.eq) = false from hb0]; simp), ← ei, ← HV.out, ← fmul_cn, cn_cn, fmul_cn]
                   first | exact hx | exact hx.drewN _)
          case measure => first | (simp [intOf]; done) | (simp [intOf]; omega)
      · have hiN : i = N := by omega
        subst hiN
        have HXR := Lib.hid hxr
        have HWR := Lib.hid hwr
        clear hxr hwr
        go_wp2
        go_end0
        exact ⟨rfl, (WrB.of_below hB _ _).trans HWR.out, HXR.out⟩
end Go.Proofs.Ytapilgbbkbfcbaa
