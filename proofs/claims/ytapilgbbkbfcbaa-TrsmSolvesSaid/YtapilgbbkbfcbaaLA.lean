/- The row TrsmAlike: for every input the law returns true, and each argument reads as it did. No condition beyond the given statement's. -/
import Derived.Test.YtapilgbbkbfcbaaRows
import Derived.Test.YtapilgbbkbfcbaaA2
import Derived.WalkKit
import Derived.ProofKit
import Derived.OpenShut
import Derived.ShutString
import Derived.ChangeOld
import Derived.Below
import Derived.SizedLaws
import Derived.Lib.SmallJoins
import Derived.Deep.Slices
namespace Go.Proofs.Ytapilgbbkbfcbaa
open Go.Joins Go.ChangeShapes Go.WideShapes Go.ChangeAt Go.RowKit Go.Deep

/-! ### A matrix that comes in -/
section
variable {H : Type} {enc : TypeId × Value → H} {P : Program} {w : World} {base : Nat} {spare : Nat → Bool} {held : Bool}
theorem mat_opened {r : Reach} {b0 : Nat} {t : TypeId} {f0 f1 f2 f3 f4 : Field} {v : Value} {d : DataW H} {p : List MemPlace} (hs : P.underlying t = some (.struct #[f0, f1, f2, f3, f4])) (hone : oneCellFields P #[f0, f1, f2, f3, f4] = true) (hC : P.cellsOf t = 5)
    (hv : Value.okWide P w r b0 t v) (h : DataW.Trod enc P w base spare held t v d p) :
    ∃ (v0 v1 v2 v3 v4 : Value) (y0 y1 y2 y3 y4 : DataW H × List MemPlace) (n : Nat), v = .agg #[v0, v1, v2, v3, v4] ∧
      DataW.trod enc P w base spare held n f0.type [v0] = some y0 ∧ DataW.trod enc P w base spare held n f1.type [v1] = some y1 ∧ DataW.trod enc P w base spare held n f2.type [v2] = some y2 ∧ DataW.trod enc P w base spare held n f3.type [v3] = some y3 ∧ DataW.trod enc P w base spare held n f4.type [v4] = some y4 := by
  obtain ⟨cs, rfl, hsz⟩ := okWide_struct hs hv
  obtain ⟨l⟩ := cs
  match l, hsz.trans hC with
  | [c0, c1, c2, c3, c4], _ =>
    obtain ⟨fuel, hf⟩ := h
    obtain ⟨xs, n, _, hx, _, hlen, hg⟩ := DataW.trod_struct hs hf
    obtain ⟨o0, k0⟩ := hone_of hone 0 f0 rfl
    obtain ⟨o1, k1⟩ := hone_of hone 1 f1 rfl
    obtain ⟨o2, k2⟩ := hone_of hone 2 f2 rfl
    obtain ⟨o3, k3⟩ := hone_of hone 3 f3 rfl
    obtain ⟨o4, k4⟩ := hone_of hone 4 f4 rfl
    match xs, hlen with
    | [y0, y1, y2, y3, y4], _ =>
      exact ⟨c0, c1, c2, c3, c4, y0, y1, y2, y3, y4, n, rfl, by simpa [Value.cells, o0, k0] using hg 0 f0 rfl, by simpa [Value.cells, o1, k1] using hg 1 f1 rfl, by simpa [Value.cells, o2, k2] using hg 2 f2 rfl, by simpa [Value.cells, o3, k3] using hg 3 f3 rfl, by simpa [Value.cells, o4, k4] using hg 4 f4 rfl⟩
theorem trod_i64 {t : TypeId} {v : Value} {n : Nat} {y : DataW H × List MemPlace} (ht : P.underlying t = some (.int .i64)) (h : DataW.trod enc P w base spare held n t [v] = some y) : ∃ i, v = .int .i64 i ∧ I64 i := by
  cases n with
  | zero => simp [DataW.trod] at h
  | succ n =>
    simp only [DataW.trod, ht] at h
    cases v <;> simp at h
    rename_i k i
    obtain ⟨⟨rfl, hw⟩, _⟩ := h
    exact ⟨i, rfl, by simp [Lit.wf, IntKind.has, IntKind.signed, IntKind.bits, IntKind.min, IntKind.max] at hw; unfold I64; omega⟩
theorem trod_f64 {t : TypeId} {v : Value} {n : Nat} {y : DataW H × List MemPlace} (ht : P.underlying t = some (.float .f64)) (h : DataW.trod enc P w base spare held n t [v] = some y) : ∃ b, v = .float .f64 b ∧ b < 18446744073709551616 := by
  cases n with
  | zero => simp [DataW.trod] at h
  | succ n =>
    simp only [DataW.trod, ht] at h
    cases v <;> simp at h
    rename_i k i
    obtain ⟨⟨rfl, hw⟩, _⟩ := h
    exact ⟨i, rfl, by simpa [Lit.wf] using hw⟩
theorem add_spot (a : Addr) : (a.add 0).spot = a.spot := by unfold Addr.add; rw [if_pos rfl]
theorem list_opened {t e : TypeId} {v : Value} {n : Nat} {y : DataW H × List MemPlace} (ht : P.underlying t = some (.slice e)) (he : P.underlying e = some (.float .f64)) (hc : P.cellsOf e = 1) (h : DataW.trod enc P w base spare held n t [v] = some y) :
    ∃ (A : Option Addr) (len cap : Nat) (F : Nat → Nat), v = .slice A len cap ∧ LAt w A len F := by
  rcases open_slice1 ht hc h with ⟨hcs, _⟩ | ⟨a, len, cap, m, k, V, D, Pl, hcs, _, hl, _, hm, _, hx⟩
  · refine ⟨none, 0, 0, fun _ => 0, by simpa using hcs, fun h => absurd h (by omega)⟩
  · have hV : ∀ i, i < len → ∃ b, V i = .float .f64 b ∧ b < 18446744073709551616 := fun i hi => trod_f64 he (hx i (by rw [hm]; split <;> omega)).2
    refine ⟨some a, len, cap, fun i => match V i with | .float _ b => cn b | _ => 0, by simpa using hcs, fun h0 => ?_⟩
    have hsp : a.spot = none := by
      have h1 := (hx 0 (by rw [hm]; split <;> omega)).1
      unfold World.cell? at h1
      split at h1
      · by_cases hs : (a.add 0).spot.isSome = true
        · rw [if_pos hs] at h1; cases h1
        · rw [add_spot] at hs; simpa using hs
      · cases h1
    obtain ⟨b, o, sp⟩ := a
    simp only at hsp
    subst hsp
    refine ⟨b, o, rfl, XAt.of_one fun i hi => ?_⟩
    obtain ⟨u, hu, hlt⟩ := hV i hi
    have h1 := (hx i (by rw [hm]; split <;> omega)).1
    rw [add_none, hu] at h1
    exact ⟨u, hlt, h1, by rw [hu]⟩
end
theorem own : ownKnob Try.prog.godebug = none := by kernel_rfl
theorem laidOut : laidOutB Try.prog = true := by kernel_rfl
set_option maxRecDepth 100000
/-- A matrix argument, opened. -/
theorem mat_arg {H : Type} {enc : TypeId × Value → H} {w : World} {base b0 : Nat} {spare : Nat → Bool} {held : Bool} {r : Reach} {v : Value} {d : DataW H} {p : List MemPlace} (hv : Value.okWide Try.prog w r b0 24 v) (h : DataW.Trod enc Try.prog w base spare held 24 v d p) :
    ∃ (A : Option Addr) (n c : Nat) (off R C ld : Int) (F : Nat → Nat), v = .agg #[.slice A n c, .int .i64 off, .int .i64 R, .int .i64 C, .int .i64 ld] ∧ LAt w A n F ∧ I64 off ∧ I64 R ∧ I64 C ∧ I64 ld := by
  obtain ⟨v0, v1, v2, v3, v4, y0, y1, y2, y3, y4, n, rfl, h0, h1, h2, h3, h4⟩ := mat_opened Try.underlying24 (by kernel_rfl) (by kernel_rfl) hv h
  obtain ⟨A, len, cap, F, rfl, hL⟩ := list_opened Try.underlying22 Try.underlying45 (by kernel_rfl) h0
  obtain ⟨i1, rfl, g1⟩ := trod_i64 Try.underlying3 h1
  obtain ⟨i2, rfl, g2⟩ := trod_i64 Try.underlying3 h2
  obtain ⟨i3, rfl, g3⟩ := trod_i64 Try.underlying3 h3
  obtain ⟨i4, rfl, g4⟩ := trod_i64 Try.underlying3 h4
  exact ⟨A, len, cap, i1, i2, i3, i4, F, rfl, hL, g1, g2, g3, g4⟩

set_option maxRecDepth 100000 in
theorem trsmAlike_lifted (os : Os) (started : os.Started) (H : Type) (enc : TypeId × Value → H) :
    ReturnsInHanded {} Try.checked os 4 .any (Rows.trsmAlikeSpec.pre6 enc Try.prog Try.f4 Rows.trsmAlikeRow.domain false) (Rows.trsmAlikeSpec.post enc Try.prog Try.f4 false true false false) := by
  refine returnsInHanded_of_change_sized (C := Try.checked) own started (by kernel_rfl) Try.func4
    (ChangeSpec.witness6 (enc := enc) (C := Try.checked) false ⟨#[], #[.int .i64 0, .int .u8 0, .int .u8 0, .agg #[.slice none 0 0, .int .i64 0, .int .i64 0, .int .i64 0, .int .i64 0], .agg #[.slice none 0 0, .int .i64 0, .int .i64 0, .int .i64 0, .int .i64 0]], []⟩ 8 (by kernel_rfl) (by kernel_rfl) (by kernel_rfl) (by kernel_rfl)) ?_
  intro W base args ds gs before hval0 hW hcnd hsz0 _
  have hval : ∀ (j : Nat) t v, Try.f4.params[j]? = some t → args[j]? = some v → Value.okWide Try.prog W .any base t v := hval0
  have hW' := hW
  obtain ⟨p, q, hA0, hV, rfl, hfz, hnd⟩ := hW
  have hA : DataW.TrodAll enc Try.prog W 0 (fun _ => true) true Try.f4.params.toList args.toList ds p := hA0
  rw [Try.params4] at hA hval
  obtain ⟨v0, vs0, d0, ds0, p0, q0, hargs, rfl, rfl, h0, r0⟩ := trodAll_cons hA
  obtain ⟨v1, vs1, d1, ds1, p1, q1, rfl, rfl, rfl, h1, r1⟩ := trodAll_cons r0
  obtain ⟨v2, vs2, d2, ds2, p2, q2, rfl, rfl, rfl, h2, r2⟩ := trodAll_cons r1
  obtain ⟨v3, vs3, d3, ds3, p3, q3, rfl, rfl, rfl, h3, r3⟩ := trodAll_cons r2
  obtain ⟨v4, vs4, d4, ds4, p4, q4, rfl, rfl, rfl, h4, r4⟩ := trodAll_cons r3
  obtain ⟨rfl, rfl, rfl⟩ := trodAll_nil r4
  obtain rfl : args = #[v0, v1, v2, v3, v4] := by cases args; simp_all
  obtain ⟨rfl, rfl⟩ := trodVars_none hV
  obtain ⟨a0, rfl, rfl, rfl, w0⟩ := open_int Try.underlying3 (hval 0 3 v0 rfl rfl) h0
  obtain ⟨a1, rfl, rfl, rfl, w1⟩ := open_int Try.underlying5 (hval 1 5 v1 rfl rfl) h1
  obtain ⟨a2, rfl, rfl, rfl, w2⟩ := open_int Try.underlying5 (hval 2 5 v2 rfl rfl) h2
  have k3 := h3
  have lt3 : ∀ x ∈ p3, x.block < W.heap.size := by obtain ⟨m, hm⟩ := k3; exact DataW.trod_lt m _ _ _ hm
  have k4 := h4
  have lt4 : ∀ x ∈ p4, x.block < W.heap.size := by obtain ⟨m, hm⟩ := k4; exact DataW.trod_lt m _ _ _ hm
  obtain ⟨A, nm, cm, offm, R, C, ld, Fm, rfl, hAm, m1, m2, m3, m4⟩ := mat_arg (hval 3 24 v3 rfl rfl) h3
  obtain ⟨A', n, c, off, R', C', ldx, Fx, rfl, hAx, x1, x2, x3, x4⟩ := mat_arg (hval 4 24 v4 rfl rfl) h4
  have b0 : I64 a0 := by simp [Lit.wf, IntKind.has, IntKind.signed, IntKind.bits, IntKind.min, IntKind.max] at w0; unfold I64; omega
  have b1 : 0 ≤ a1 ∧ a1 ≤ 255 := by simp [Lit.wf, IntKind.has, IntKind.signed, IntKind.bits, IntKind.min, IntKind.max] at w1; omega
  have b2 : 0 ≤ a2 ∧ a2 ≤ 255 := by simp [Lit.wf, IntKind.has, IntKind.signed, IntKind.bits, IntKind.min, IntKind.max] at w2; omega
  clear hA0 hval0 hsz0
  refine (alike_calls a0 a1 a2 A nm cm offm R C ld A' n c off R' C' ldx W Fm Fx b1 b2 b0 m1 m2 m3 m4 x1 x2 x3 x4 hAm hAx).mono fun e W' ⟨he, bel⟩ => ?_
  subst he
  exact ⟨_, rfl, _, _, _, [], _, [], hW', trodAll_mk1 (shut_bool Try.underlying4 _),
    (trodAll_cons_mk (shut_int Try.underlying3 w0) (trodAll_cons_mk (shut_int Try.underlying5 w1) (trodAll_cons_mk (shut_int Try.underlying5 w2)
      (trodAll_cons_mk (Below.trod laidOut (by kernel_rfl) (of_decide_eq_true (by kernel_rfl)) k3 bel lt3) (trodAll_cons_mk (Below.trod laidOut (by kernel_rfl) (of_decide_eq_true (by kernel_rfl)) k4 bel lt4) trodAll_mk0))))), rfl, bel.frame _, fun h => by cases h⟩
theorem trsmAlike_over : Rows.trsmAlikeRow.holds Try.pinned (OpenSpec.ofChange Rows.trsmAlikeSpec) :=
  OpenClaim.holds_of_wide 4 Try.f4 rfl rfl rfl rfl rfl rfl rfl ⟨rfl, rfl, rfl, rfl, rfl⟩ rfl rfl rfl rfl rfl (by kernel_rfl) Try.func4 (by kernel_rfl)
    (of_decide_eq_true (by kernel_rfl)) (by unfold Func.isWrapper; first | (rw [if_pos (by decide +kernel)]; kernel_rfl) | (rw [if_neg (by decide +kernel)]; exact ⟨rfl, rfl⟩))
    (fun os started H enc _ => trsmAlike_lifted os started H enc)
theorem trsmAlike_holds : Rows.TrsmAlikeSaid := trsmAlike_over
#print axioms trsmAlike_holds
end Go.Proofs.Ytapilgbbkbfcbaa
