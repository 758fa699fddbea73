/- Layer 3: a new matrix: what the code computes. -/
import Derived.Test.YtapilgbbkbfcbaaL2
import Derived.Test.YtapilgbbkbfcbaaV1
namespace Go.Proofs.Ytapilgbbkbfcbaa
open Go Go.RowKit

/-- What stands at a place of a new matrix when k numbers of a list have come. -/
def denseN (F : Nat → Nat) (R C k : Nat) (p : Nat) : Nat := if p % R * C + p / R < k then F (p % R * C + p / R) else 0
theorem dense_place {R C k : Nat} (hk : k < R * C) : k / C + k % C * R < R * C ∧ (k / C + k % C * R) % R = k / C ∧ (k / C + k % C * R) / R = k % C := by
  have hC : 0 < C := by rcases Nat.eq_zero_or_pos C with h | h; (subst h; omega); exact h
  have hR : 0 < R := by rcases Nat.eq_zero_or_pos R with h | h; (subst h; omega); exact h
  have h1 : k / C < R := Nat.div_lt_of_lt_mul (by rw [Nat.mul_comm]; exact hk)
  have h2 : k % C < C := Nat.mod_lt _ hC
  refine ⟨?_, by rw [Nat.add_mul_mod_self_right, Nat.mod_eq_of_lt h1], by rw [Nat.add_mul_div_right _ _ hR, Nat.div_eq_of_lt h1, Nat.zero_add]⟩
  have : (k % C + 1) * R ≤ C * R := Nat.mul_le_mul_right R (by omega)
  rw [Nat.add_mul, Nat.one_mul, Nat.mul_comm C R] at this
  omega
theorem dense_more (F : Nat → Nat) {R C k p : Nat} (hk : k < R * C) (hp0 : p < R * C) : denseN F R C (k + 1) p = upd (denseN F R C k) (k / C + k % C * R) (F k) p := by
  have hC : 0 < C := by rcases Nat.eq_zero_or_pos C with h | h; (subst h; omega); exact h
  obtain ⟨h1, h2, h3⟩ := dense_place hk
  have hkk : k / C * C + k % C = k := by rw [Nat.mul_comm]; exact Nat.div_add_mod k C
  unfold denseN upd
  by_cases hp : p = k / C + k % C * R
  · subst hp
    rw [h2, h3, hkk, if_pos (by omega), if_pos rfl]
  · rw [if_neg hp]
    have hq : p / R < C := Nat.div_lt_of_lt_mul hp0
    have hne : p % R * C + p / R ≠ k := by
      intro e
      have e1 : (p % R * C + p / R) / C = p % R := by rw [Nat.add_comm, Nat.add_mul_div_right _ _ hC, Nat.div_eq_of_lt hq, Nat.zero_add]
      have e2 : (p % R * C + p / R) % C = p / R := by rw [Nat.add_comm, Nat.add_mul_mod_self_right, Nat.mod_eq_of_lt hq]
      rw [e] at e1 e2
      apply hp
      rw [e1, e2, Nat.mul_comm]
      exact (Nat.mod_add_div p R).symm
    show _ = if p % R * C + p / R < k then F (p % R * C + p / R) else 0
    by_cases hl : p % R * C + p / R < k
    · rw [if_pos (by omega), if_pos hl]
    · rw [if_neg (by omega), if_neg hl]

theorem XAt.put1 {w w1 : World} {b N : Nat} {X : Nat → Nat} (h : XAt w b 0 0 1 N X) (hb : BL w w1) (i r : Nat) (hi : i < N) (hr : r < 18446744073709551616) : XAt (w1.setCell ⟨b, i, none⟩ (.float .f64 r)) b 0 0 1 N (upd X i (cn r)) := by
  have := h.put hb (Int.le_refl 0) (Int.le_refl 1) i r hi hr
  rw [show 0 + (0 + (i : Int) * 1).toNat = i by omega] at this
  exact this
theorem XAt.congr {w : World} {b o : Nat} {off inc : Int} {N : Nat} {X Y : Nat → Nat} (h : XAt w b o off inc N X) (he : ∀ i, i < N → X i = Y i) : XAt w b o off inc N Y :=
  fun i hi => let ⟨v, hv, hc, hx⟩ := h i hi; ⟨v, hv, hc, hx.trans (he i hi)⟩
theorem run_make_f (N : Nat) (hN : N ≤ 1000000) (W : World) :
    (Instr.makeSlice 22 (.int .i64 (N : Int)) (.int .i64 (N : Int))).run Try.prog W = .ok (.slice (some ⟨W.heap.size, 0, none⟩) N N) (W.alloc (.cells (madeCells #[.float .f64 0] N) 45)) := by
  obtain ⟨i0, hi, hz0, hz1, hz2⟩ := info_parts infoF64
  have hr := run_make (P := Try.prog) W 22 45 i0 (.float .f64 0) Try.underlying22 hi hz0 .i64 .i64 N N (by omega) (by omega) (by rw [hz2]; omega) (by omega)
  simp only [Int.toNat_natCast, hz1, Nat.mul_one] at hr
  exact hr
theorem made_get {N i : Nat} (h : i < N) : (madeCells #[.float .f64 0] N)[i]? = some (.float .f64 0) := by
  simp [madeCells, h, Nat.mod_one]

set_option maxRecDepth 100000
set_option maxHeartbeats 2000000 in
theorem dense_pos (R C : Nat) (A : Option Addr) (m c : Nat) (F : Nat → Nat) (w : World) (hR1 : 1 ≤ R) (hR : R ≤ 64) (hC : C ≤ 64) (hA : LAt w A m F) (hm : m ≤ R * C) (hmc : m ≤ c) :
    Calls Try.prog 21 #[.int .i64 R, .int .i64 C, .slice A m c] w
      fun e w' => ∃ g, e = .returned (.agg #[.slice (some ⟨g, 0, none⟩) (R * C : Nat) (R * C : Nat), .int .i64 0, .int .i64 R, .int .i64 C, .int .i64 R]) ∧ OwnL w' w.heap.size g (R * C) (R * C) (denseN F R C m) ∧ Below w.heap.size w w' := by
  obtain ⟨N, hN⟩ : ∃ N, N = R * C := ⟨_, rfl⟩
  have eN : (R : Int) * (C : Int) = (N : Int) := by rw [hN]; exact (Int.natCast_mul R C).symm
  have hN4 : N ≤ 4096 := by rw [hN]; exact Nat.le_trans (Nat.mul_le_mul hR hC) (by omega)
  rw [← hN] at hm ⊢
  have hmk := run_make_f N (by omega)
  have hR0 : (0 : Int) ≤ R := by omega
  have hC0 : (0 : Int) ≤ C := by omega
  have hR6 : (R : Int) ≤ 64 := by omega
  have hC6 : (C : Int) ≤ 64 := by omega
  have hR1' : 1 ≤ (R : Int) := by omega
  have hmN : ¬ N < m := by omega
  have HN := Lib.hid (And.intro hN hA)
  clear hN hA
  go_enter Try.func21, Try.ntmps21
  go_wp2
  refine gen_world (fun W hW => ?_)
  have hB : BL w W := by rw [hW]; exact (((Below.refl _ _).alloc (Nat.le_refl _) _).alloc (by simp) _).alloc (by first | (simp; done) | (simp; omega)) _
  have r0 : W.heap[w.heap.size]? = some (.cells #[.slice none 0 0, .int .i64 0, .int .i64 0, .int .i64 0, .int .i64 0] 24 (0, 0)) := by
    rw [hW]; exact (Below.heap_alloc _ _ _ (by simp; omega)).trans ((Below.heap_alloc _ _ _ (by simp)).trans (new_row _ _))
  have r1 : W.heap[w.heap.size + 1]? = some (.cells (madeCells #[.float .f64 0] N) 45 (0, 0)) := by
    rw [hW]; exact (Below.heap_alloc _ _ _ (by simp)).trans (new_at _ _ (by simp))
  have r2 : W.heap[w.heap.size + 1 + 1]? = some (.cells #[.slice (some ⟨w.heap.size + 1, 0, none⟩) N N, .int .i64 0, .int .i64 R, .int .i64 C, .int .i64 R] 24 (0, 0)) := by
    rw [hW]; exact new_at _ _ (by simp)
  have hx0 : XAt W (w.heap.size + 1) 0 0 1 N (denseN F R C 0) := XAt.of_one fun i hi => ⟨0, by omega, by rw [Nat.zero_add, cells_of r1]; exact made_get hi, by unfold denseN; rw [if_neg (Nat.not_lt_zero _)]; rfl⟩
  have hfz : ∀ i, W.frozen? ⟨w.heap.size + 1, i, none⟩ = false := fun i => by simp [World.frozen?, r1]
  have HW := Lib.hid (And.intro r1 (And.intro hx0 hfz))
  have hWz := hB.size
  clear hW r1 hx0 hfz
  go_loopw [43] (fun kv wr => ∃ k : Nat, k ≤ m ∧ kv = .int .i64 k ∧ WrB W wr (w.heap.size + 1) (fun p => p < N) ∧ XAt wr (w.heap.size + 1) 0 0 1 N (denseN F R C k)) (fun kv _ => (m - intOf kv).toNat)
  case atStart => exact ⟨0, Nat.zero_le _, rfl, WrB.refl _ _ _, HW.out.2.1⟩
  case round =>
    obtain ⟨k, hk, rfl, hwr, hxr⟩ := hrel
    by_cases hlt : k < m
    · obtain ⟨b, o, rfl, hX⟩ := HN.out.2 (by omega)
      obtain ⟨u, hu, cu, xu⟩ := hX.one hlt
      have hbl : b < w.heap.size := World.block_lt_of_cell? w _ cu
      have cu1 := hwr.cell (hB.cell cu) (.inl (by omega))
      have q2 := hwr.keep r2 (by omega)
      obtain ⟨h1, h2, h3⟩ := dense_place (R := R) (C := C) (k := k) (by rw [← HN.out.1]; omega)
      have hC1 : 1 ≤ (C : Int) := by
        rcases Nat.eq_zero_or_pos C with h | h
        · subst h; have := HN.out.1; omega
        · omega
      obtain ⟨a, ha⟩ : ∃ a, a = k / C := ⟨_, rfl⟩
      obtain ⟨b', hb'⟩ : ∃ b', b' = k % C := ⟨_, rfl⟩
      obtain ⟨q, hq⟩ : ∃ q, q = b' * R := ⟨_, rfl⟩
      have ea : (k : Int) / (C : Int) = (a : Int) := by rw [ha]; exact (Int.natCast_ediv k C).symm
      have eb : (k : Int) % (C : Int) = (b' : Int) := by rw [hb']; exact (Int.natCast_emod k C).symm
      have eq : (b' : Int) * (R : Int) = (q : Int) := by rw [hq]; exact (Int.natCast_mul b' R).symm
      have haq : a + q < N := by rw [HN.out.1, ha, hq, hb']; exact h1
      have hzf : wr.frozen? ⟨w.heap.size + 1, a + q, none⟩ = false := by
        obtain ⟨v, _, hc, _⟩ := HW.out.2.1.one haq
        rw [Nat.zero_add] at hc
        rw [hwr.frozen hc]; exact HW.out.2.2 _
      have HX := Lib.hid (And.intro hwr (And.intro hxr (And.intro xu (And.intro ha (And.intro hb' hq)))))
      obtain ⟨vo, _, hco, _⟩ := hxr.one haq
      rw [Nat.zero_add] at hco
      clear hwr hxr xu ha hb' hq h1 h2 h3 hX cu
      go_wp2
      refine wp_region_calm_tail 14 (by kernel_rfl) (by kernel_rfl) (BL wr) (fun _ _ _ => False) (BL.refl _).drew ?_
      simp only [List.take_succ_cons, List.take_zero, List.drop_succ_cons, List.drop_zero]
      repeat (first
        | (refine cmMove _ (by rfl) ?_; simp only [List.set_cons_succ, List.set_cons_zero])
        | (refine cwW (by rfl) (fun K hK w' hw => ?_); have k1 := cells_of (hw.row q2); go_step; refine hK _ _ hw ?_; clear hK k1 hw w' K))
      refine wpCalm_nil (fun w4 hw4 => ?_)
      have hco4 := hw4.cell hco
      have hzf4 : w4.frozen? ⟨w.heap.size + 1, a + q, none⟩ = false := by rw [hw4.frozen (World.block_lt_of_cell? _ _ hco)]; exact hzf
      go_wp2
      go_roundw
      case rel =>
        refine ⟨k + 1, by omega, rfl, HX.out.1.trans ((WrB.of_below hw4 _ _).trans (WrB.set w4 (w.heap.size + 1) (a + q) (fun p => p < N) haq _)), (HX.out.2.1.put1 hw4 (a + q) u haq hu).congr fun i hi => ?_⟩
        have e1 := dense_more F (R := R) (C := C) (k := k) (p := i) (by rw [← HN.out.1]; omega) (by rw [← HN.out.1]; exact hi)
        rw [e1, HX.out.2.2.1, HX.out.2.2.2.1, HX.out.2.2.2.2.2, HX.out.2.2.2.2.1]
      case measure => first | (simp [intOf]; done) | (simp [intOf]; omega)
    · obtain rfl : k = m := by omega
      have q0 := hwr.keep r0 (by omega)
      have q2 := hwr.keep r2 (by omega)
      have k0 := cells_of q0
      have k2 := cells_of q2
      have f0 : ∀ i, wr.frozen? ⟨w.heap.size, i, none⟩ = false := fun i => by simp [World.frozen?, q0]
      have hz := hwr.size
      have HX := Lib.hid (And.intro hwr hxr)
      clear hwr hxr q0 q2
      have hz3 : w.heap.size + 1 < wr.heap.size := by have := (Array.getElem?_eq_some_iff.1 r2).1; omega
      have hz4 : w.heap.size < wr.heap.size := by omega
      go_wp2
      have hO : OwnL wr w.heap.size (w.heap.size + 1) N N (denseN F R C k) := by
        obtain ⟨cs, h1, h2, _⟩ := HX.out.1.row _ _ _ HW.out.1
        exact ⟨Nat.le_succ _, Nat.le_refl _, by unfold maxLen; omega, ⟨cs, h1, by rw [h2, size_madeCells]⟩, HX.out.2⟩
      have hbw : Below w.heap.size w wr := by
        refine ⟨HX.out.1.os.trans hB.os, HX.out.1.tape.trans hB.tape, HX.out.1.output.trans hB.output, Nat.le_trans hB.size HX.out.1.size, fun j hj => (HX.out.1.other j (Nat.lt_of_lt_of_le hj hB.size) (by omega)).trans (hB.block j hj)⟩
      refine bodyPost_ret (v := .agg #[.slice (some ⟨w.heap.size + 1, 0, none⟩) N N, .int .i64 0, .int .i64 R, .int .i64 C, .int .i64 R]) (by simp [results, Try.results21, go_sem, k0, k2, hz3, hz4]) rfl ⟨_, rfl, ?_, ?_⟩
      · have m2 := fun i : Nat => (show (⟨w.heap.size, i, none⟩ : Addr).block ≠ w.heap.size + 1 by simp)
        exact ((((hO.set (m2 0) _).set (m2 1) _).set (m2 2) _).set (m2 3) _).set (m2 4) _
      · have m2 := fun i : Nat => (show w.heap.size ≤ (⟨w.heap.size, i, none⟩ : Addr).block from Nat.le_refl _)
        exact ((((hbw.setCell (m2 0) _).setCell (m2 1) _).setCell (m2 2) _).setCell (m2 3) _).setCell (m2 4) _
end Go.Proofs.Ytapilgbbkbfcbaa
