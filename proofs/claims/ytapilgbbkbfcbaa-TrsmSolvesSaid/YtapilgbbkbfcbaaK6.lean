/- Reference 14: triangular systems, column by column: what is computed. -/
import Derived.Test.YtapilgbbkbfcbaaK5
import Derived.Test.YtapilgbbkbfcbaaMix
namespace Go.Proofs.Ytapilgbbkbfcbaa
open Go Go.RowKit

theorem solve9_any (kind : Int) (hk : kind = 1 ∨ kind = 2) (b o nm cm N : Nat) (M : Nat → Nat → Nat) (A : Option Addr) (c : Nat) (x : Nat → Nat) (w : World) (hN : N ≤ 64) (hnm : N * N ≤ nm) (hnm4 : nm ≤ 4096) (hM : XAt w b o 0 1 (N * N) (rowT M N)) (hx : LAt w A N x) (r : Bool) (hr : r = true ↔ ¬ (kind = 2 ∧ zeroDiag M N)) :
    Calls Try.prog 37 #[.int .i64 kind, .agg #[.int .i64 N, .int .i64 N, .slice (some ⟨b, o, none⟩) nm cm], .slice A N c] w
      fun e w' => ∃ g c', e = .returned (.tuple #[.slice (some ⟨g, 0, none⟩) N c', .bool r]) ∧ OwnL w' w.heap.size g c' N (pickB r (sol kind M N x) x) ∧ Below w.heap.size w w' := by
  rcases hk with rfl | rfl
  · obtain rfl : r = true := hr.2 (fun h => absurd h.1 (by decide))
    exact solve9_low b o nm cm N M A c x w hN hnm hnm4 hM hx
  · exact solve9_up b o nm cm N M A c x w hN hnm hnm4 hM hx r (hr.trans ⟨fun h hz => h ⟨rfl, hz⟩, fun h hz => h hz.2⟩)

/-- The table that is returned. -/
def solT (r : Bool) (kind : Int) (M : Nat → Nat → Nat) (N : Nat) (X : Nat → Nat → Nat) : Nat → Nat → Nat := fun i j => pickB r (sol kind M N (fun i => X i j)) (fun i => X i j) i
/-- Columns ahead of j are there, and of column j the numbers ahead of i. -/
def colS (Z X : Nat → Nat → Nat) (j i : Nat) : Nat → Nat → Nat := fun a b => if b < j ∨ b = j ∧ a < i then Z a b else X a b
theorem colS_more (Z X : Nat → Nat → Nat) {C i j : Nat} (hj : j < C) (p : Nat) : rowT (colS Z X j (i + 1)) C p = upd (rowT (colS Z X j i) C) (i * C + j) (Z i j) p := by
  unfold rowT upd colS
  by_cases h : p = i * C + j
  · subst h; rw [if_pos rfl, (row_div hj).1, (row_div hj).2, if_pos (.inr ⟨rfl, by omega⟩)]
  · rw [if_neg h]
    have hp := Nat.div_add_mod p C
    have hne : ¬ (p % C = j ∧ p / C = i) := fun ⟨h1, h2⟩ => h (by rw [← h1, ← h2, Nat.mul_comm]; exact hp.symm)
    clear hp
    show (if p % C < j ∨ p % C = j ∧ p / C < i + 1 then Z (p / C) (p % C) else X (p / C) (p % C)) = if p % C < j ∨ p % C = j ∧ p / C < i then Z (p / C) (p % C) else X (p / C) (p % C)
    generalize p % C = b at hne ⊢
    generalize p / C = a at hne ⊢
    by_cases h2 : b < j ∨ b = j ∧ a < i
    · rw [if_pos h2, if_pos (by omega)]
    · rw [if_neg h2, if_neg (by omega)]
theorem colS_col (Z X : Nat → Nat → Nat) {N C j p : Nat} (hp : p < N * C) : rowT (colS Z X j N) C p = rowT (colS Z X (j + 1) 0) C p := by
  have ha : p / C < N := Nat.div_lt_of_lt_mul (by rw [Nat.mul_comm]; exact hp)
  unfold rowT colS
  generalize p % C = b
  generalize p / C = a at ha ⊢
  by_cases h2 : b < j ∨ b = j ∧ a < N
  · rw [if_pos h2, if_pos (by omega)]
  · rw [if_neg h2, if_neg (by omega)]
theorem colS_none (Z X : Nat → Nat → Nat) (C p : Nat) : rowT (colS Z X 0 0) C p = rowT X C p := by
  unfold rowT colS; rw [if_neg (fun h => h.elim (fun h => absurd h (Nat.not_lt_zero _)) (fun h => absurd h.2 (Nat.not_lt_zero _)))]
theorem colS_all (Z X : Nat → Nat → Nat) {N C p : Nat} (hp : p < N * C) : rowT (colS Z X C 0) C p = rowT Z C p := by
  have hC : 0 < C := by
    rcases Nat.eq_zero_or_pos C with h | h
    · subst h; rw [Nat.mul_zero] at hp; omega
    · exact h
  have := Nat.mod_lt p hC
  unfold rowT colS; rw [if_pos (.inl this)]
theorem GrowL.later {w w1 : World} {base n : Nat} {v : Value} {F : Nat → Nat} (h : GrowL w base v n F) (hb : BL w w1) : GrowL w1 base v n F := by
  rcases h with h | ⟨g, c, e, hO⟩
  · exact .inl h
  · exact .inr ⟨g, c, e, hO.later hb⟩
/-- A list that has grown, as an argument. -/
theorem GrowL.lat {w : World} {base n : Nat} {v : Value} {F : Nat → Nat} (h : GrowL w base v n F) : ∃ A c, v = .slice A n c ∧ LAt w A n F := by
  rcases h with ⟨rfl, rfl⟩ | ⟨g, c, rfl, hO⟩
  · exact ⟨none, 0, rfl, fun h => absurd h (by omega)⟩
  · exact ⟨_, c, rfl, fun _ => ⟨g, 0, rfl, hO.2.2.2.2⟩⟩
set_option maxRecDepth 100000
set_option maxHeartbeats 4000000 in
theorem solve14_calls (kind : Int) (hk : kind = 1 ∨ kind = 2) (bm om nm cm N : Nat) (M : Nat → Nat → Nat) (bx ox cx C : Nat) (X : Nat → Nat → Nat) (w : World) (hN : N ≤ 64) (hC : C ≤ 64) (hnm : N * N ≤ nm) (hnm4 : nm ≤ 4096) (hM : XAt w bm om 0 1 (N * N) (rowT M N)) (hX : XAt w bx ox 0 1 (N * C) (rowT X C)) (r : Bool) (hr : r = true ↔ ¬ (kind = 2 ∧ zeroDiag M N)) :
    Calls Try.prog 12 #[.int .i64 kind, .agg #[.int .i64 N, .int .i64 N, .slice (some ⟨bm, om, none⟩) nm cm], .agg #[.int .i64 N, .int .i64 C, .slice (some ⟨bx, ox, none⟩) (N * C : Nat) cx]] w
      fun e w' => ∃ g c', e = .returned (.tuple #[.agg #[.int .i64 N, .int .i64 C, .slice (some ⟨g, 0, none⟩) (N * C : Nat) c'], .bool r]) ∧ OwnL w' w.heap.size g c' (N * C) (rowT (solT r kind M N X) C) ∧ Below w.heap.size w w' := by
  obtain ⟨T, hT⟩ : ∃ T, T = N * C := ⟨_, rfl⟩
  have hT4 : T ≤ 4096 := by rw [hT]; exact Nat.le_trans (Nat.mul_le_mul hN hC) (by omega)
  have hlim : lim = 140737488355328 := lim_eq
  have hmk := run_make_f N (by omega)
  have HN := Lib.hid (And.intro hT (And.intro hk (And.intro hr (And.intro hM hX))))
  rw [← hT]
  clear hT hk hr hM hX
  go_enter Try.func12, Try.ntmps12
  go_wp2_with fail
  refine gen_call (fun W hW => ?_)
  have hB : BL w W := by rw [hW]; repeat (first | exact Below.refl _ _ | refine Below.alloc ?_ (by first | (simp; done) | (simp; omega)) _)
  have q1 : W.heap[w.heap.size]? = some (.cells #[.int .i64 N, .int .i64 N, .slice (some ⟨bm, om, none⟩) nm cm] 31 (0, 0)) := by
    rw [hW]; rw [Below.heap_alloc _ _ _ (by first | (simp; done) | (simp; omega)), Below.heap_alloc _ _ _ (by first | (simp; done) | (simp; omega))]; exact new_row _ _
  have q2 : W.heap[w.heap.size + 1]? = some (.cells #[.int .i64 N, .int .i64 C, .slice (some ⟨bx, ox, none⟩) T cx] 31 (0, 0)) := by
    rw [hW]; rw [Below.heap_alloc _ _ _ (by first | (simp; done) | (simp; omega))]; exact new_at _ _ (by simp)
  have q3 : W.heap[w.heap.size + 2]? = some (.cells #[.int .i64 0, .int .i64 0, .slice none 0 0] 31 (0, 0)) := by
    rw [hW]; exact new_at _ _ (by simp)
  clear hW
  have hX1 := HN.out.2.2.2.2.later hB
  rw [← HN.out.1] at hX1
  refine (mcopy_calls N C (some ⟨bx, ox, none⟩) T cx (rowT X C) W (fun _ => ⟨bx, ox, rfl, hX1⟩) hT4).mono ?_
  rintro e w1 ⟨g, c1, rfl, hO, hb1⟩
  have hz1 := hb1.size
  have hzW : w.heap.size + 2 < W.heap.size := (Array.getElem?_eq_some_iff.1 q3).1
  go_wp2
  refine gen_world (fun W2 hW2 => ?_)
  have hB2 : BL w1 W2 := by rw [hW2]; exact (Below.refl _ _).alloc (Nat.le_refl _) _
  have q4 : W2.heap[w1.heap.size]? = some (.cells #[.int .i64 N, .int .i64 C, .slice (some ⟨g, 0, none⟩) T c1] 31 (0, 0)) := by rw [hW2]; exact new_row _ _
  clear hW2
  have hBW2 : BL W W2 := BL.call hb1 hB2
  have hO2 := hO.later hB2
  have q1 := hBW2.row q1
  have q2 := hBW2.row q2
  have q3 := hBW2.row q3
  have hgW : W.heap.size ≤ g := hO.1
  have hg1 : g < w1.heap.size := hO.lt
  have hM2 := HN.out.2.2.2.1.later (BL.call hB hBW2)
  have hX2 := HN.out.2.2.2.2.later (BL.call hB hBW2)
  have HW := Lib.hid (And.intro hO2 (And.intro hM2 (And.intro hX2 (BL.call hB hBW2))))
  clear hO hO2 hM2 hX2 hX1 hb1 hB2 hBW2
  refine wp_region_free2 10 (BL W2) (fun i => match i with | 3 => [2] | 4 => [3] | 5 => [0, 1, 4] | 6 => [5] | 7 => [6] | 8 => [6] | 9 => [7] | _ => [])
    (fun i v w' => match i with
      | 0 => v = .int .i64 kind
      | 1 => v = .agg #[.int .i64 N, .int .i64 N, .slice (some ⟨bm, om, none⟩) nm cm]
      | 2 => v = .pointer (some ⟨w.heap.size, 0, none⟩)
      | 3 => v = .int .i64 N
      | 4 => ∃ g, v = .slice (some ⟨g, 0, none⟩) N N ∧ XAt w' g 0 0 1 N (fun _ => 0)
      | 5 => ∃ l, v = .tuple #[l, .bool r]
      | 6 => ∃ l, v = .tuple #[l, .bool r]
      | 8 => v = .bool r
      | _ => True)
    (fun _ _ => []) (by kernel_rfl) (by kernel_rfl) (BL.refl _).drew ?_ ?_
  · intro i v w' w'' h hb
    match i, h with
    | 0, h => exact h
    | 1, h => exact h
    | 2, h => exact h
    | 3, h => exact h
    | 4, ⟨g, h1, h2⟩ => exact ⟨g, h1, h2.later hb⟩
    | 5, h => exact h
    | 6, h => exact h
    | 7, h => exact h
    | 8, h => exact h
    | (i + 9), h => exact h
  · intro vs
    simp only [List.take_succ_cons, List.take_zero, List.drop_succ_cons, List.drop_zero]
    refine ob_step rfl (fun w4 hw4 _ => ?_) ?_
    · refine free_wp rfl rfl (by simp) (fun K hK => ?_)
      go_step
      exact hK _ _ ⟨hw4, Below.refl _ _, rfl, fun b hb => by cases hb⟩
    rw [put_lit]; simp only [List.set_cons_succ, List.set_cons_zero]
    refine ob_step rfl (fun w4 hw4 _ => ?_) ?_
    · refine free_wp rfl rfl (by simp) (fun K hK => ?_)
      have k1 := cells_of (hw4.row q1)
      go_step
      exact hK _ _ ⟨hw4, Below.refl _ _, rfl, fun b hb => by cases hb⟩
    rw [put_lit]; simp only [List.set_cons_succ, List.set_cons_zero]
    refine ob_step rfl (fun w4 hw4 _ => ?_) ?_
    · refine free_wp rfl rfl (by simp) (fun K hK => ?_)
      have k1 := cells_of (hw4.row q1)
      go_step
      exact hK _ _ ⟨hw4, Below.refl _ _, rfl, fun b hb => by cases hb⟩
    rw [put_lit]; simp only [List.set_cons_succ, List.set_cons_zero]
    refine ob_step rfl (fun w4 hw4 hd => ?_) ?_
    · have e0 := hd 2 (List.mem_singleton.2 rfl)
      simp only at e0
      rw [e0]
      refine free_wp rfl rfl (by simp) (fun K hK => ?_)
      have k1 := cells_of (hw4.row q1)
      go_step
      exact hK _ _ ⟨hw4, Below.refl _ _, rfl, fun b hb => by cases hb⟩
    rw [put_lit]; simp only [List.set_cons_succ, List.set_cons_zero]
    refine ob_step rfl (fun w4 hw4 hd => ?_) ?_
    · have e0 := hd 3 (List.mem_singleton.2 rfl)
      simp only at e0
      rw [e0]
      go_simp
      exact ⟨hw4.call ((Below.refl _ _).alloc (Nat.le_refl _) _), (Below.refl _ _).alloc (Nat.le_refl _) _, ⟨_, rfl, XAt.of_one fun i hi => ⟨0, by omega, by rw [Nat.zero_add, cells_of (new_row _ _)]; exact made_get hi, rfl⟩⟩, fun b hb => by cases hb⟩
    rw [put_lit]; simp only [List.set_cons_succ, List.set_cons_zero]
    refine ob_step rfl (fun w4 hw4 hd => ?_) ?_
    · have e0 := hd 0 (by simp)
      have e1 := hd 1 (by simp)
      obtain ⟨g4, e4, hx4⟩ := hd 4 (by simp)
      simp only at e0 e1
      rw [e0, e1, e4]
      go_simp
      refine (solve9_any kind HN.out.2.1 bm om nm cm N M (some ⟨g4, 0, none⟩) N (fun _ => 0) w4 hN hnm hnm4 (HW.out.2.1.later hw4) (fun _ => ⟨g4, 0, rfl, hx4⟩) r HN.out.2.2.1).mono ?_
      rintro e w5 ⟨g5, c5, rfl, hO5, hb5⟩
      exact ⟨_, rfl, hw4.call hb5, hb5, ⟨_, rfl⟩, fun b hb => by cases hb⟩
    rw [put_lit]; simp only [List.set_cons_succ, List.set_cons_zero]
    refine ob_step rfl (fun w4 hw4 hd => ?_) ?_
    · obtain ⟨l, e0⟩ := hd 5 (by simp)
      rw [e0]
      refine free_wp rfl rfl (by simp) (fun K hK => ?_)
      go_step
      exact hK _ _ ⟨hw4, Below.refl _ _, ⟨_, rfl⟩, fun b hb => by cases hb⟩
    rw [put_lit]; simp only [List.set_cons_succ, List.set_cons_zero]
    refine ob_step rfl (fun w4 hw4 hd => ?_) ?_
    · obtain ⟨l, e0⟩ := hd 6 (by simp)
      rw [e0]
      refine free_wp rfl rfl (by simp) (fun K hK => ?_)
      go_step
      exact hK _ _ ⟨hw4, Below.refl _ _, trivial, fun b hb => by cases hb⟩
    rw [put_lit]; simp only [List.set_cons_succ, List.set_cons_zero]
    refine ob_step rfl (fun w4 hw4 hd => ?_) ?_
    · obtain ⟨l, e0⟩ := hd 6 (by simp)
      rw [e0]
      refine free_wp rfl rfl (by simp) (fun K hK => ?_)
      go_step
      exact hK _ _ ⟨hw4, Below.refl _ _, rfl, fun b hb => by cases hb⟩
    rw [put_lit]; simp only [List.set_cons_succ, List.set_cons_zero]
    refine ob_step rfl (fun w4 hw4 hd => ?_) ?_
    · refine free_wp rfl rfl (by simp) (fun K hK => ?_)
      go_step
      exact hK _ _ ⟨hw4, Below.refl _ _, trivial, fun b hb => by cases hb⟩
    rw [put_lit]; simp only [List.set_cons_succ, List.set_cons_zero]
    refine ob_end (fun w4 hw4 hψ _ _ => ?_)
    have e8 : vs 8 = .bool r := hψ 8 (by omega)
    simp only [Nat.zero_add, Nat.reduceAdd]
    rw [e8]
    clear hψ e8
    go_wp2
    obtain ⟨Z, hZ⟩ : ∃ Z, Z = solT r kind M N X := ⟨_, rfl⟩
    have HZ := Lib.hid hZ
    clear hZ
    go_loopw [11] (fun jv wr => ∃ j : Nat, j ≤ C ∧ jv = .int .i64 j ∧ WrB W2 wr g (fun p => p < T) ∧ XAt wr g 0 0 1 T (rowT (colS Z X j 0) C)) (fun jv _ => (C - intOf jv).toNat)
    case atStart => exact ⟨0, Nat.zero_le _, rfl, WrB.of_below hw4 _ _, (HW.out.1.2.2.2.2.later hw4).congr fun p _ => (colS_none Z X C p).symm⟩
    case round =>
      obtain ⟨j, hj, rfl, hwr, hxr⟩ := hrel
      obtain ⟨wo, hwo⟩ : ∃ wo : World, wo = wr := ⟨_, rfl⟩
      rw [← hwo] at hwr hxr ⊢
      clear hwo wr
      by_cases hlt : j < C
      · have p1 := hwr.keep q1 (by omega)
        have p2 := hwr.keep q2 (by omega)
        have k2 := cells_of p2
        have hM5 : XAt wo bm om 0 1 (N * N) (rowT M N) := fun i hi => let ⟨v, hv, hc, hx⟩ := HW.out.2.1 i hi; ⟨v, hv, hwr.cell hc (.inl (by
          obtain ⟨v0, _, hc0, _⟩ := HN.out.2.2.2.1 i hi
          have := World.block_lt_of_cell? w _ hc0
          have : bm < w.heap.size := this
          omega)), hx⟩
        have hX5 : XAt wo bx ox 0 1 (N * C) (rowT X C) := fun i hi => let ⟨v, hv, hc, hx⟩ := HW.out.2.2.1 i hi; ⟨v, hv, hwr.cell hc (.inl (by
          obtain ⟨v0, _, hc0, _⟩ := HN.out.2.2.2.2 i hi
          have := World.block_lt_of_cell? w _ hc0
          have : bx < w.heap.size := this
          omega)), hx⟩
        have HX := Lib.hid (And.intro hwr (And.intro hxr (And.intro hM5 hX5)))
        clear hwr hxr hM5 hX5
        go_wp2
        clear k2
        refine wp_region_free2 10 (BL wo) (fun i => match i with | 4 => [2, 3] | 5 => [0, 1, 4] | 6 => [5] | 7 => [6] | 8 => [6] | 9 => [7] | _ => [])
          (fun i v w' => match i with
            | 0 => v = .int .i64 kind
            | 1 => v = .agg #[.int .i64 N, .int .i64 N, .slice (some ⟨bm, om, none⟩) nm cm]
            | 2 => v = .agg #[.int .i64 N, .int .i64 C, .slice (some ⟨bx, ox, none⟩) T cx]
            | 3 => v = .int .i64 j
            | 4 => GrowL w' wo.heap.size v N (fun i => X i j)
            | 5 => ∃ g c', v = .tuple #[.slice (some ⟨g, 0, none⟩) N c', .bool r] ∧ OwnL w' wo.heap.size g c' N (fun i => Z i j)
            | 6 => ∃ g c', v = .tuple #[.slice (some ⟨g, 0, none⟩) N c', .bool r] ∧ OwnL w' wo.heap.size g c' N (fun i => Z i j)
            | 8 => v = .bool r
            | _ => ∃ g c', v = .slice (some ⟨g, 0, none⟩) N c' ∧ OwnL w' wo.heap.size g c' N (fun i => Z i j))
          (fun _ _ => []) (by kernel_rfl) (by kernel_rfl) (BL.refl _).drew ?_ ?_
        · intro i v w' w'' h hb
          match i, h with
          | 0, h => exact h
          | 1, h => exact h
          | 2, h => exact h
          | 3, h => exact h
          | 4, h => exact h.later hb
          | 5, ⟨g, c, h1, h2⟩ => exact ⟨g, c, h1, h2.later hb⟩
          | 6, ⟨g, c, h1, h2⟩ => exact ⟨g, c, h1, h2.later hb⟩
          | 7, ⟨g, c, h1, h2⟩ => exact ⟨g, c, h1, h2.later hb⟩
          | 8, h => exact h
          | (i + 9), ⟨g, c, h1, h2⟩ => exact ⟨g, c, h1, h2.later hb⟩
        · intro vs
          simp only [List.take_succ_cons, List.take_zero, List.drop_succ_cons, List.drop_zero]
          refine ob_step rfl (fun w4 hw4 _ => ?_) ?_
          · refine free_wp rfl rfl (by simp) (fun K hK => ?_)
            go_step
            exact hK _ _ ⟨hw4, Below.refl _ _, rfl, fun b hb => by cases hb⟩
          rw [put_lit]; simp only [List.set_cons_succ, List.set_cons_zero]
          refine ob_step rfl (fun w4 hw4 _ => ?_) ?_
          · refine free_wp rfl rfl (by simp) (fun K hK => ?_)
            have k1 := cells_of (hw4.row p1)
            go_step
            exact hK _ _ ⟨hw4, Below.refl _ _, rfl, fun b hb => by cases hb⟩
          rw [put_lit]; simp only [List.set_cons_succ, List.set_cons_zero]
          refine ob_step rfl (fun w4 hw4 _ => ?_) ?_
          · refine free_wp rfl rfl (by simp) (fun K hK => ?_)
            have k1 := cells_of (hw4.row p2)
            go_step
            exact hK _ _ ⟨hw4, Below.refl _ _, rfl, fun b hb => by cases hb⟩
          rw [put_lit]; simp only [List.set_cons_succ, List.set_cons_zero]
          refine ob_step rfl (fun w4 hw4 _ => ?_) ?_
          · refine free_wp rfl rfl (by simp) (fun K hK => ?_)
            go_step
            exact hK _ _ ⟨hw4, Below.refl _ _, rfl, fun b hb => by cases hb⟩
          rw [put_lit]; simp only [List.set_cons_succ, List.set_cons_zero]
          refine ob_step rfl (fun w4 hw4 hd => ?_) ?_
          · have e2 := hd 2 (by simp)
            have e3 := hd 3 (by simp)
            simp only at e2 e3
            rw [e2, e3]
            go_simp
            refine (mcol_calls bx ox T cx N C j X w4 hN hC hlt (by rw [HN.out.1]; exact Nat.le_refl _) hT4 (HX.out.2.2.2.later hw4)).mono ?_
            rintro e w5 ⟨v, rfl, hG, hb5⟩
            refine ⟨v, rfl, hw4.call hb5, hb5, ?_, fun b hb => by cases hb⟩
            rcases hG with h | ⟨g5, c5, h1, h2⟩
            · exact .inl h
            · exact .inr ⟨g5, c5, h1, h2.base hw4.size⟩
          rw [put_lit]; simp only [List.set_cons_succ, List.set_cons_zero]
          refine ob_step rfl (fun w4 hw4 hd => ?_) ?_
          · have e0 := hd 0 (by simp)
            have e1 := hd 1 (by simp)
            have h4 : GrowL w4 wo.heap.size (vs 4) N (fun i => X i j) := hd 4 (by simp)
            obtain ⟨A4, c4, e4, hx4⟩ := h4.lat
            simp only at e0 e1
            rw [e0, e1, e4]
            go_simp
            refine (solve9_any kind HN.out.2.1 bm om nm cm N M A4 c4 (fun i => X i j) w4 hN hnm hnm4 (HX.out.2.2.1.later hw4) hx4 r HN.out.2.2.1).mono ?_
            rintro e w5 ⟨g5, c5, rfl, hO5, hb5⟩
            exact ⟨_, rfl, hw4.call hb5, hb5, ⟨_, _, rfl, by rw [HZ.out]; exact hO5.base hw4.size⟩, fun b hb => by cases hb⟩
          rw [put_lit]; simp only [List.set_cons_succ, List.set_cons_zero]
          refine ob_step rfl (fun w4 hw4 hd => ?_) ?_
          · obtain ⟨g5, c5, e0, hO5⟩ := hd 5 (by simp)
            rw [e0]
            refine free_wp rfl rfl (by simp) (fun K hK => ?_)
            go_step
            exact hK _ _ ⟨hw4, Below.refl _ _, ⟨_, _, rfl, hO5⟩, fun b hb => by cases hb⟩
          rw [put_lit]; simp only [List.set_cons_succ, List.set_cons_zero]
          refine ob_step rfl (fun w4 hw4 hd => ?_) ?_
          · obtain ⟨g5, c5, e0, hO5⟩ := hd 6 (by simp)
            rw [e0]
            refine free_wp rfl rfl (by simp) (fun K hK => ?_)
            go_step
            exact hK _ _ ⟨hw4, Below.refl _ _, ⟨_, _, rfl, hO5⟩, fun b hb => by cases hb⟩
          rw [put_lit]; simp only [List.set_cons_succ, List.set_cons_zero]
          refine ob_step rfl (fun w4 hw4 hd => ?_) ?_
          · obtain ⟨g5, c5, e0, hO5⟩ := hd 6 (by simp)
            rw [e0]
            refine free_wp rfl rfl (by simp) (fun K hK => ?_)
            go_step
            exact hK _ _ ⟨hw4, Below.refl _ _, rfl, fun b hb => by cases hb⟩
          rw [put_lit]; simp only [List.set_cons_succ, List.set_cons_zero]
          refine ob_step rfl (fun w4 hw4 hd => ?_) ?_
          · obtain ⟨g5, c5, e0, hO5⟩ := hd 7 (by simp)
            rw [e0]
            refine free_wp rfl rfl (by simp) (fun K hK => ?_)
            go_step
            exact hK _ _ ⟨hw4, Below.refl _ _, ⟨_, _, rfl, hO5⟩, fun b hb => by cases hb⟩
          rw [put_lit]; simp only [List.set_cons_succ, List.set_cons_zero]
          refine ob_end (fun w5 hw5 hψ _ _ => ?_)
          have e8 : vs 8 = .bool r := hψ 8 (by omega)
          obtain ⟨g9, c9, e9, hO9⟩ := hψ 9 (by omega)
          simp only [Nat.zero_add, Nat.reduceAdd]
          rw [e8, e9]
          have hg9 : wo.heap.size ≤ g9 := hO9.1
          have hgr : g < wo.heap.size := Nat.lt_of_lt_of_le (Nat.lt_of_lt_of_le hg1 (by
            have := (Array.getElem?_eq_some_iff.1 q4).1
            omega)) HX.out.1.size
          have HY := Lib.hid (And.intro (HX.out.2.1.later hw5) (And.intro (HX.out.1.trans (WrB.of_below hw5 _ _)) hO9))
          have p2 := (show BL wo w5 from hw5).row p2
          have p4 := (show BL wo w5 from hw5).row (HX.out.1.keep q4 (by omega))
          clear hψ e8 e9 hO9 hw5
          go_wp2
          go_loopw [14] (fun iv wr => ∃ i : Nat, i ≤ N ∧ iv = .int .i64 i ∧ WrB w5 wr g (fun p => p < T) ∧ XAt wr g 0 0 1 T (rowT (colS Z X j i) C)) (fun iv _ => (N - intOf iv).toNat)
          case atStart => exact ⟨0, Nat.zero_le _, rfl, WrB.refl _ _ _, HY.out.1⟩
          case round =>
            obtain ⟨i, hi, rfl, hwr, hxr⟩ := hrel
            have p2' := hwr.keep p2 (by omega)
            have k2 := cells_of p2'
            by_cases hlt2 : i < N
            · obtain ⟨v, hv, cv, xv⟩ := HY.out.2.2.2.2.2.2.one hlt2
              have cv1 := hwr.cell cv (.inl (by omega))
              have hp : i * C + j < T := by rw [HN.out.1]; exact row_lt hlt2 hlt
              obtain ⟨u, _, cu, _⟩ := hxr.one hp
              have hfz : wr.frozen? ⟨g, 0 + (i * C + j), none⟩ = false := by
                obtain ⟨u2, _, cu2, _⟩ := HW.out.1.2.2.2.2.one hp
                rw [(HY.out.2.1.trans hwr).frozen cu2]; exact HW.out.1.fz (fun _ => True) _ trivial
              have p4' := hwr.keep p4 (by omega)
              have HV := Lib.hid (And.intro hwr (And.intro hxr xv))
              clear hwr hxr xv cv
              rw [Nat.zero_add] at cv1
              go_wp2
              clear k2
              refine wp_region_calm_tail 7 (by kernel_rfl) (by kernel_rfl) (BL wr) (fun _ _ _ => False) (BL.refl _).drew ?_
              simp only [List.take_succ_cons, List.take_zero, List.drop_succ_cons, List.drop_zero]
              repeat (first
                | (refine cmMove _ (by rfl) ?_; simp only [List.set_cons_succ, List.set_cons_zero])
                | (refine cwW (by rfl) (fun K hK w' hw => ?_); have k1 := cells_of (hw.row p4'); have k3 := hw.cell cv1; go_step; refine hK _ _ hw ?_; clear hK k1 k3 hw w' K))
              refine wpCalm_nil (fun w6 hw6 => ?_)
              go_wp2_with fail
              refine (mat_set g 0 T c1 N C i j C (i * C + j) v u w6 rfl rfl hp (by omega) (hw6.cell cu) (by rw [hw6.frozen (World.block_lt_of_cell? _ _ cu)]; exact hfz)).mono ?_
              rintro e w7 ⟨rfl, ob, hw7⟩
              have HP := Lib.hid (put_wr HV.out.2.1 hw6 hp hv hw7)
              clear hw7
              go_wp2
              go_roundw
              case rel => exact ⟨i + 1, by omega, by go_num, HV.out.1.trans HP.out.2, HP.out.1.congr fun p _ => by rw [colS_more Z X hlt, HV.out.2.2]⟩
              case measure => first | (simp [intOf]; done) | (simp [intOf]; omega)
            · obtain rfl : i = N := by omega
              have HV := Lib.hid (And.intro hwr hxr)
              clear hwr hxr
              go_wp2
              go_roundw
              case rel => exact ⟨j + 1, by omega, by go_num, HY.out.2.1.trans HV.out.1, HV.out.2.congr fun p hp => colS_col Z X (by rw [← HN.out.1]; exact hp)⟩
              case measure => first | (simp [intOf]; done) | (simp [intOf]; omega)
      · obtain rfl : j = C := by omega
        have p2 := hwr.keep q2 (by omega)
        have p4 := hwr.keep q4 (by omega)
        have p3 := hwr.keep q3 (by omega)
        have hz := hwr.size
        have k2 := cells_of p2
        have k4 := cells_of p4
        have k3 := cells_of p3
        have f3 : ∀ i, wo.frozen? ⟨w.heap.size + 2, i, none⟩ = false := fun i => by simp [World.frozen?, p3]
        have hz3 : w.heap.size + 2 < wo.heap.size := (Array.getElem?_eq_some_iff.1 p3).1
        have HX := Lib.hid (And.intro hwr hxr)
        clear hwr hxr p2 p3 p4
        go_wp2
        refine bodyPost_ret (v := .tuple #[.agg #[.int .i64 N, .int .i64 j, .slice (some ⟨g, 0, none⟩) T c1], .bool r]) (by simp [results, Try.results12, go_sem, k3, hz3]) rfl ⟨_, _, rfl, ?_, ?_⟩
        · have m2 := fun i : Nat => (show (⟨w.heap.size + 1 + 1, i, none⟩ : Addr).block ≠ g by show w.heap.size + 1 + 1 ≠ g; omega)
          have hO3 := (HW.out.1.base (base' := w.heap.size) (by omega)).wrote HX.out.1 (fun _ => HX.out.2)
          have hO4 : OwnL wo w.heap.size g c1 T (rowT (solT r kind M N X) j) := ⟨hO3.1, hO3.2.1, hO3.2.2.1, hO3.2.2.2.1, hO3.2.2.2.2.congr fun p hp => by rw [colS_all Z X (N := N) (by rw [← HN.out.1]; exact hp), HZ.out]⟩
          exact ((hO4.set (m2 0) _).set (m2 1) _).set (m2 2) _
        · have m2 := fun i : Nat => (show w.heap.size ≤ (⟨w.heap.size + 1 + 1, i, none⟩ : Addr).block from Nat.le_succ_of_le (Nat.le_succ _))
          exact (((below_wr HW.out.2.2.2 HX.out.1 (by omega)).setCell (m2 0) _).setCell (m2 1) _).setCell (m2 2) _
/-! ### Solving by blocks, plainly: which error there is, what is left then -/
section
variable {kind size : Int} {nm : Nat} {offm R C ld : Int} {n : Nat} {off R' C' ldx : Int} {meet : Prop} {Fm Fx : Nat → Nat}
theorem tcode_bad (h : kind < 1 ∨ 2 < kind ∨ size < 1 ∨ ¬ goodP nm offm R C ld ∨ ¬ goodP n off R' C' ldx) : tcode kind size nm offm R C ld n off R' C' ldx meet Fm = 1 := by
  unfold tcode; rw [if_pos h]
theorem tcode_size (h : ¬ (kind < 1 ∨ 2 < kind ∨ size < 1 ∨ ¬ goodP nm offm R C ld ∨ ¬ goodP n off R' C' ldx)) (h2 : ¬ (R = C ∧ R' = R)) : tcode kind size nm offm R C ld n off R' C' ldx meet Fm = 3 := by
  unfold tcode; rw [if_neg h, if_pos h2]
theorem tcode_meet (h : ¬ (kind < 1 ∨ 2 < kind ∨ size < 1 ∨ ¬ goodP nm offm R C ld ∨ ¬ goodP n off R' C' ldx)) (h2 : R = C ∧ R' = R) (h3 : meet) : tcode kind size nm offm R C ld n off R' C' ldx meet Fm = 2 := by
  unfold tcode; rw [if_neg h, if_neg (fun h => h h2), if_pos h3]
theorem tcode_zero (h : ¬ (kind < 1 ∨ 2 < kind ∨ size < 1 ∨ ¬ goodP nm offm R C ld ∨ ¬ goodP n off R' C' ldx)) (h2 : R = C ∧ R' = R) (h3 : ¬ meet) (h4 : kind = 2 ∧ zeroDiag (tab offm ld Fm) R.toNat) : tcode kind size nm offm R C ld n off R' C' ldx meet Fm = 4 := by
  unfold tcode; rw [if_neg h, if_neg (fun h => h h2), if_neg h3, if_pos h4]
theorem tcode_ok (h : ¬ (kind < 1 ∨ 2 < kind ∨ size < 1 ∨ ¬ goodP nm offm R C ld ∨ ¬ goodP n off R' C' ldx)) (h2 : R = C ∧ R' = R) (h3 : ¬ meet) (h4 : ¬ (kind = 2 ∧ zeroDiag (tab offm ld Fm) R.toNat)) : tcode kind size nm offm R C ld n off R' C' ldx meet Fm = 0 := by
  unfold tcode; rw [if_neg h, if_neg (fun h => h h2), if_neg h3, if_neg h4]
theorem tleft_err (h : tcode kind size nm offm R C ld n off R' C' ldx meet Fm ≠ 0) : tleft kind size nm offm R C ld n off R' C' ldx meet Fm Fx = Fx := by
  unfold tleft; rw [if_neg (fun h' => h h'.1)]
theorem tleft_ok (h : tcode kind size nm offm R C ld n off R' C' ldx meet Fm = 0) (hR : 0 ≤ R) (hR' : R' = R) : tleft kind size nm offm R C ld n off R' C' ldx meet Fm Fx = intoN off ldx R'.toNat C'.toNat (fun i j => sol kind (tab offm ld Fm) R.toNat (fun i => tab off ldx Fx i j) i) Fx := by
  unfold tleft
  by_cases h0 : 0 < R
  · rw [if_pos ⟨h, h0⟩]
  · rw [if_neg (fun h' => h0 h'.2)]
    have e : R'.toNat = 0 := by omega
    funext p
    unfold intoN
    rw [e, if_neg (fun h => absurd h.2.1 (Nat.not_lt_zero _))]
theorem spans_meet {A : Option Addr} (hm : goodP nm offm R C ld) (hx : goodP n off R' C' ldx) :
    (spanA offm R C ≤ spanB offm R C ld ∧ spanA off R' C' ≤ spanB off R' C' ldx ∧ spanA offm R C ≤ spanB off R' C' ldx ∧ spanA off R' C' ≤ spanB offm R C ld) ↔ meetP A off R' C' ldx A offm R C ld := by
  unfold meetP spanA spanB
  have h1 := hm.1; have h2 := hm.2.1; have h3 := hx.1; have h4 := hx.2.1
  by_cases a : R = 0 ∨ C = 0
  · simp only [if_pos a]
    exact ⟨fun h => absurd h.1 (by omega), fun h => by omega⟩
  · by_cases b : R' = 0 ∨ C' = 0
    · simp only [if_neg a, if_pos b]
      exact ⟨fun h => absurd h.2.1 (by omega), fun h => by omega⟩
    · simp only [if_neg a, if_neg b]
      have g1 := last_lt hm (by omega) (by omega)
      have g2 := last_lt hx (by omega) (by omega)
      refine ⟨fun h => ⟨⟨by omega, by omega⟩, ⟨by omega, by omega⟩, by trivial, h.2.2.2, h.2.2.1⟩, fun h => ⟨g1.2.2.1, g2.2.2.1, h.2.2.2.2, h.2.2.2.1⟩⟩
end
/-- Five blocks stand as they are. -/
def Rows5 (b1 b2 b3 b4 b5 : Nat) (o1 o2 o3 o4 o5 : Obj) (w : World) : Prop := w.heap[b1]? = some o1 ∧ w.heap[b2]? = some o2 ∧ w.heap[b3]? = some o3 ∧ w.heap[b4]? = some o4 ∧ w.heap[b5]? = some o5
theorem Rows5.later {b1 b2 b3 b4 b5 : Nat} {o1 o2 o3 o4 o5 : Obj} {w w1 : World} (h : Rows5 b1 b2 b3 b4 b5 o1 o2 o3 o4 o5 w) (hb : BL w w1) : Rows5 b1 b2 b3 b4 b5 o1 o2 o3 o4 o5 w1 := ⟨hb.row h.1, hb.row h.2.1, hb.row h.2.2.1, hb.row h.2.2.2.1, hb.row h.2.2.2.2⟩
theorem sol_bool (p : Prop) : ∃ r : Bool, r = true ↔ ¬ p := by
  by_cases h : p
  · exact ⟨false, ⟨fun h' => absurd h' (by decide), fun h' => absurd h h'⟩⟩
  · exact ⟨true, ⟨fun _ => h, fun _ => rfl⟩⟩
end Go.Proofs.Ytapilgbbkbfcbaa
