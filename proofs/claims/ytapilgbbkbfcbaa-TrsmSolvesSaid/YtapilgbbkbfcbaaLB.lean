/- The row TrsmSolves: for every input the law returns true, and each argument reads as it did. No condition beyond the given statement's. -/
import Derived.Test.YtapilgbbkbfcbaaLA
import Derived.Test.YtapilgbbkbfcbaaA3
import Derived.Test.YtapilgbbkbfcbaaA4
import Derived.Test.YtapilgbbkbfcbaaA5
namespace Go.Proofs.Ytapilgbbkbfcbaa
open Go.Joins Go.ChangeShapes Go.WideShapes Go.ChangeAt Go.RowKit Go.Deep

theorem solves_calls (kind size : Int) (A : Option Addr) (nm cm : Nat) (offm R C ld : Int) (A' : Option Addr) (n c : Nat) (off R' C' ldx : Int) (one : Bool) (w : World) (Fm Fx : Nat → Nat)
    (hkind : I64 kind) (hsize : I64 size) (m1 : I64 offm) (m2 : I64 R) (m3 : I64 C) (m4 : I64 ld) (x1 : I64 off) (x2 : I64 R') (x3 : I64 C') (x4 : I64 ldx)
    (hAm : LAt w A nm Fm) (hAx : LAt w A' n Fx) :
    Calls Try.prog 3 #[.int .i64 kind, .int .i64 size, .agg #[.slice A nm cm, .int .i64 offm, .int .i64 R, .int .i64 C, .int .i64 ld], .agg #[.slice A' n c, .int .i64 off, .int .i64 R', .int .i64 C', .int .i64 ldx], .bool one] w
      fun e w' => e = .returned (.bool true) ∧ Below w.heap.size w w' := by
  cases one with
  | false => exact solves_a kind size A nm cm offm R C ld A' n c off R' C' ldx w Fm Fx hkind hsize m1 m2 m3 m4 x1 x2 x3 x4 hAm hAx
  | true =>
    rcases Nat.eq_zero_or_pos nm with h | h
    · exact solves_b kind size A nm cm offm R C ld A' n c off R' C' ldx w Fm Fx hkind hsize m1 m2 m3 m4 x1 x2 x3 x4 hAm hAx h
    · exact solves_c kind size A nm cm offm R C ld A' n c off R' C' ldx w Fm Fx hkind hsize m1 m2 m3 m4 x1 x2 x3 x4 hAm hAx h
set_option maxRecDepth 100000 in
theorem trsmSolves_lifted (os : Os) (started : os.Started) (H : Type) (enc : TypeId × Value → H) :
    ReturnsInHanded {} Try.checked os 3 .any (Rows.trsmSolvesSpec.pre6 enc Try.prog Try.f3 Rows.trsmSolvesRow.domain false) (Rows.trsmSolvesSpec.post enc Try.prog Try.f3 false true false false) := by
  refine returnsInHanded_of_change_sized (C := Try.checked) own started (by kernel_rfl) Try.func3
    (ChangeSpec.witness6 (enc := enc) (C := Try.checked) false ⟨#[], #[.int .i64 0, .int .i64 0, .agg #[.slice none 0 0, .int .i64 0, .int .i64 0, .int .i64 0, .int .i64 0], .agg #[.slice none 0 0, .int .i64 0, .int .i64 0, .int .i64 0, .int .i64 0], .bool false], []⟩ 8 (by kernel_rfl) (by kernel_rfl) (by kernel_rfl) (by kernel_rfl)) ?_
  intro W base args ds gs before hval0 hW hcnd hsz0 _
  have hval : ∀ (j : Nat) t v, Try.f3.params[j]? = some t → args[j]? = some v → Value.okWide Try.prog W .any base t v := hval0
  have hW' := hW
  obtain ⟨p, q, hA0, hV, rfl, hfz, hnd⟩ := hW
  have hA : DataW.TrodAll enc Try.prog W 0 (fun _ => true) true Try.f3.params.toList args.toList ds p := hA0
  rw [Try.params3] at hA hval
  obtain ⟨v0, vs0, d0, ds0, p0, q0, hargs, rfl, rfl, h0, r0⟩ := trodAll_cons hA
  obtain ⟨v1, vs1, d1, ds1, p1, q1, rfl, rfl, rfl, h1, r1⟩ := trodAll_cons r0
  obtain ⟨v2, vs2, d2, ds2, p2, q2, rfl, rfl, rfl, h2, r2⟩ := trodAll_cons r1
  obtain ⟨v3, vs3, d3, ds3, p3, q3, rfl, rfl, rfl, h3, r3⟩ := trodAll_cons r2
  obtain ⟨v4, vs4, d4, ds4, p4, q4, rfl, rfl, rfl, h4, r4⟩ := trodAll_cons r3
  obtain ⟨rfl, rfl, rfl⟩ := trodAll_nil r4
  obtain rfl : args = #[v0, v1, v2, v3, v4] := by cases args; simp_all
  obtain ⟨rfl, rfl⟩ := trodVars_none hV
  obtain ⟨a0, rfl, rfl, rfl, w0⟩ := open_int Try.underlying3 (hval 0 3 v0 rfl rfl) h0
  obtain ⟨a1, rfl, rfl, rfl, w1⟩ := open_int Try.underlying3 (hval 1 3 v1 rfl rfl) h1
  obtain ⟨a4, rfl, rfl, rfl⟩ := open_bool Try.underlying4 (hval 4 4 v4 rfl rfl) h4
  have k2 := h2
  have lt2 : ∀ x ∈ p2, x.block < W.heap.size := by obtain ⟨m, hm⟩ := k2; exact DataW.trod_lt m _ _ _ hm
  have k3 := h3
  have lt3 : ∀ x ∈ p3, x.block < W.heap.size := by obtain ⟨m, hm⟩ := k3; exact DataW.trod_lt m _ _ _ hm
  obtain ⟨A, nm, cm, offm, R, C, ld, Fm, rfl, hAm, m1, m2, m3, m4⟩ := mat_arg (hval 2 24 v2 rfl rfl) h2
  obtain ⟨A', n, c, off, R', C', ldx, Fx, rfl, hAx, x1, x2, x3, x4⟩ := mat_arg (hval 3 24 v3 rfl rfl) h3
  have b0 : I64 a0 := by simp [Lit.wf, IntKind.has, IntKind.signed, IntKind.bits, IntKind.min, IntKind.max] at w0; unfold I64; omega
  have b1 : I64 a1 := by simp [Lit.wf, IntKind.has, IntKind.signed, IntKind.bits, IntKind.min, IntKind.max] at w1; unfold I64; omega
  clear hA0 hval0 hsz0
  refine (solves_calls a0 a1 A nm cm offm R C ld A' n c off R' C' ldx a4 W Fm Fx b0 b1 m1 m2 m3 m4 x1 x2 x3 x4 hAm hAx).mono fun e W' ⟨he, bel⟩ => ?_
  subst he
  exact ⟨_, rfl, _, _, _, [], _, [], hW', trodAll_mk1 (shut_bool Try.underlying4 _),
    (trodAll_cons_mk (shut_int Try.underlying3 w0) (trodAll_cons_mk (shut_int Try.underlying3 w1) (trodAll_cons_mk (Below.trod laidOut (by kernel_rfl) (of_decide_eq_true (by kernel_rfl)) k2 bel lt2)
      (trodAll_cons_mk (Below.trod laidOut (by kernel_rfl) (of_decide_eq_true (by kernel_rfl)) k3 bel lt3) (trodAll_cons_mk (shut_bool Try.underlying4 a4) trodAll_mk0))))), rfl, bel.frame _, fun h => by cases h⟩
theorem trsmSolves_over : Rows.trsmSolvesRow.holds Try.pinned (OpenSpec.ofChange Rows.trsmSolvesSpec) :=
  OpenClaim.holds_of_wide 3 Try.f3 rfl rfl rfl rfl rfl rfl rfl ⟨rfl, rfl, rfl, rfl, rfl⟩ rfl rfl rfl rfl rfl (by kernel_rfl) Try.func3 (by kernel_rfl)
    (of_decide_eq_true (by kernel_rfl)) (by unfold Func.isWrapper; first | (rw [if_pos (by decide +kernel)]; kernel_rfl) | (rw [if_neg (by decide +kernel)]; exact ⟨rfl, rfl⟩))
    (fun os started H enc _ => trsmSolves_lifted os started H enc)
theorem trsmSolves_holds : Rows.TrsmSolvesSaid := trsmSolves_over
#print axioms trsmSolves_holds
end Go.Proofs.Ytapilgbbkbfcbaa
