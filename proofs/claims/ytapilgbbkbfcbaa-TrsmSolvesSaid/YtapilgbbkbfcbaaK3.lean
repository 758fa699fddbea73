/- Reference 03: tables that are copied, their columns: what they compute. -/
import Derived.Test.YtapilgbbkbfcbaaK2
namespace Go.Proofs.Ytapilgbbkbfcbaa
open Go Go.RowKit

/-- What stands in a block. -/
def RowIs (r : Nat) (ob : Obj) (w : World) : Prop := w.heap[r]? = some ob
/-- A list is copied: the step at append, wherever it stands. -/
theorem wpCopy {d : Option Tmp} {a : Act} {K : Act → World → Prop} {Q : Exit → Act → World → Prop} {w : World} {ty : TypeId} {p : String} {af : Array Edge} {gd : Option (Nat × Bool)} (s x : Operand) (base r : Nat) (A : Option Addr) (n c : Nat) (F : Nat → Nat) (hs : a.eval s = .slice (some ⟨r, 0, none⟩) 0 0) (hr : w.heap[r]? = some (.cells #[] 45 (0, 0))) (hb : base ≤ r) (hbz : base ≤ w.heap.size)
    (hx : a.eval x = .slice A n c) (hA : LAt w A n F) (hn : n ≤ 4096)
    (hK : ∀ g c' w1, OwnL w1 base g c' n F → w.grownBy w1 (some r) → K (a.put d (.slice (some ⟨g, 0, none⟩) n c')) w1) : Oper.wp Try.prog ⟨d, .call { callee := .builtin .append, args := #[s, x], argTypes := #[22, 22] }, ty, p, af, gd⟩ a w K Q := by
  obtain ⟨i0, hi, hz0, hz1, hz2⟩ := info_parts infoF64
  rcases A with _ | ⟨b, o, sp⟩
  · have hn0 : n = 0 := by
      rcases Nat.eq_zero_or_pos n with h | h
      · exact h
      · obtain ⟨b, o, e, _⟩ := hA h; cases e
    subst hn0
    have hrun : (execOp a.eval ⟨d, .call { callee := .builtin .append, args := #[s, x], argTypes := #[22, 22] }, ty, p, af, gd⟩).run Try.prog w = .ok (.value (.slice (some ⟨r, 0, none⟩) 0 0)) w := by
      simp only [execOp, resolve, invoke, builtin, Sem.run_bind, Sem.run_pure, Result.andThen_ok, List.map_toArray, List.map_cons, List.map_nil, hs, hx]
      simp [Builtin.append_, run_underlying Try.underlying22, sizeOf, typeInfo, hi, Builtin.lenOf, Builtin.firstCells, storeCells]
    unfold Oper.wp
    rw [hrun]
    exact hK r 0 w ⟨hb, Nat.le_refl _, Nat.zero_le _, ⟨_, hr, rfl⟩, fun i hi => absurd hi (by omega)⟩ (World.grownBy.refl w _)
  · obtain ⟨L, hl, hL⟩ := copy_list hA
    refine wp_append_own w s x 22 rfl base 45 i0 (.float .f64 0) 1 8 Try.underlying22 hi hz0 hz1 hz2 rfl (by decide) _ 0 [] hs (own_empty _ _ r hr hb) ⟨b, o, sp⟩ n c (L.map (Value.float .f64)) hx (by rw [List.length_map, hl]; omega) (fun j u hj => ?_) (fun u hu => ?_) (by unfold maxLen; omega) (by omega) hbz (fun v' w1 hown' hgrow hnil => ?_)
    · simp only [List.getElem?_map, Option.map_eq_some_iff] at hj
      obtain ⟨x, hx, rfl⟩ := hj
      exact (hL j x hx).2.1
    · obtain ⟨x, _, rfl⟩ := List.mem_map.1 hu
      rfl
    · rw [Nat.zero_add, List.nil_append] at hown'
      obtain ⟨g, c', rfl, hO⟩ := OwnL.of_own hown' (fun h => by have := (hnil.1 h).1; cases this) (fun j u hj => let ⟨h1, _, h3⟩ := hL j u hj; ⟨h1, h3⟩)
      exact hK g c' w1 hO hgrow

set_option maxRecDepth 100000
set_option maxHeartbeats 2000000 in
theorem mcopy_calls (R C : Int) (A : Option Addr) (n c : Nat) (F : Nat → Nat) (w : World) (hA : LAt w A n F) (hn : n ≤ 4096) :
    Calls Try.prog 36 #[.agg #[.int .i64 R, .int .i64 C, .slice A n c]] w
      fun e w' => ∃ g c', e = .returned (.agg #[.int .i64 R, .int .i64 C, .slice (some ⟨g, 0, none⟩) n c']) ∧ OwnL w' w.heap.size g c' n F ∧ Below w.heap.size w w' := by
  have HA := Lib.hid hA
  clear hA
  go_enter Try.func36, Try.ntmps36
  go_wp2
  refine gen_world (fun W hW => ?_)
  have hB : BL w W := by rw [hW]; exact ((Below.refl _ _).alloc (Nat.le_refl _) _).alloc (by simp) _
  have r1 : W.heap[w.heap.size]? = some (.cells #[.int .i64 R, .int .i64 C, .slice A n c] 31 (0, 0)) := by rw [hW]; exact (Below.heap_alloc _ _ _ (by simp)).trans (new_row _ _)
  have r2 : W.heap[w.heap.size + 1]? = some (.cells #[.int .i64 0, .int .i64 0, .slice none 0 0] 31 (0, 0)) := by rw [hW]; exact new_at _ _ (by simp)
  have hzW : w.heap.size + 1 < W.heap.size := (Array.getElem?_eq_some_iff.1 r2).1
  clear hW
  have HB := Lib.hid (And.intro hB (And.intro r1 r2))
  clear hB r1 r2
  refine wp_region_uni [0, 1, 2, 3, 5, 6] [4, 7, 8, 9] (RowIs w.heap.size (.cells #[.int .i64 R, .int .i64 C, .slice A n c] 31 (0, 0))) (by kernel_rfl) (by kernel_rfl) HB.out.2.1 (fun c dst v a w h => by cases dst <;> exact h) ?_
  simp only [pickL, List.filterMap_cons, List.filterMap_nil, List.getElem?_cons_zero, List.getElem?_cons_succ]
  refine uni_step rfl (.pointer (some ⟨w.heap.size, 0, none⟩)) (fun w' hw => by have k1 := cells_of (show w'.heap[w.heap.size]? = _ from hw); go_simp) ?_
  rw [put_lit]; simp only [List.set_cons_succ, List.set_cons_zero]
  refine uni_step rfl (.int .i64 R) (fun w' hw => by have k1 := cells_of (show w'.heap[w.heap.size]? = _ from hw); go_simp) ?_
  rw [put_lit]; simp only [List.set_cons_succ, List.set_cons_zero]
  refine uni_step rfl (.pointer (some ⟨w.heap.size, 1, none⟩)) (fun w' hw => by have k1 := cells_of (show w'.heap[w.heap.size]? = _ from hw); go_simp) ?_
  rw [put_lit]; simp only [List.set_cons_succ, List.set_cons_zero]
  refine uni_step rfl (.int .i64 C) (fun w' hw => by have k1 := cells_of (show w'.heap[w.heap.size]? = _ from hw); go_simp) ?_
  rw [put_lit]; simp only [List.set_cons_succ, List.set_cons_zero]
  refine uni_step rfl (.pointer (some ⟨w.heap.size, 2, none⟩)) (fun w' hw => by have k1 := cells_of (show w'.heap[w.heap.size]? = _ from hw); go_simp) ?_
  rw [put_lit]; simp only [List.set_cons_succ, List.set_cons_zero]
  refine uni_step rfl (.slice A n c) (fun w' hw => by have k1 := cells_of (show w'.heap[w.heap.size]? = _ from hw); go_simp) ?_
  rw [put_lit]; simp only [List.set_cons_succ, List.set_cons_zero]
  refine uni_end ?_
  refine rest_step rfl ?_
  go_simp
  refine ⟨(Below.heap_alloc _ _ _ (by first | omega | (simp; omega))).trans HB.out.2.1, ?_⟩
  refine rest_step rfl ?_
  refine wpCopy (.tmp 7) (.tmp 9) W.heap.size W.heap.size A n c F rfl (new_at _ _ (by simp)) (Nat.le_refl _) (by simp) rfl (((HA.out.later HB.out.1).later (BL.refl W).drew).later ((Below.refl _ _).alloc (Nat.le_refl _) _)) hn (fun g c' w1 hO hgrow => ?_)
  have p1 := (hgrow.block w.heap.size (by simp; omega) (by simp; omega)).trans ((Below.heap_alloc _ _ _ (by first | omega | (simp; omega))).trans HB.out.2.1)
  have p2 := (hgrow.block (w.heap.size + 1) (by simp; omega) (by simp; omega)).trans ((Below.heap_alloc _ _ _ (by first | omega | (simp; omega))).trans HB.out.2.2)
  have hb1 : Below W.heap.size W w1 := ((BL.refl W).drew.alloc (Nat.le_refl _) _).grown hgrow (by simp) (fun j hj => by cases hj; exact Nat.le_refl _)
  have hbw : Below w.heap.size w w1 := BL.call HB.out.1 hb1
  have hz1 := hb1.size
  have n1 : g ≠ w.heap.size + 1 := Nat.ne_of_gt (Nat.lt_of_lt_of_le hzW hO.1)
  refine ⟨p1, ?_⟩
  rw [put_lit]; simp only [List.set_cons_succ, List.set_cons_zero]
  refine rest_val rfl (.agg #[.int .i64 R, .int .i64 C, .slice (some ⟨g, 0, none⟩) n c']) (by go_simp) p1 ?_
  rw [put_lit]; simp only [List.set_cons_succ, List.set_cons_zero]
  refine rest_step rfl ?_
  have k2 := cells_of p2
  have f2 : ∀ i, w1.frozen? ⟨w.heap.size + 1, i, none⟩ = false := fun i => by simp [World.frozen?, p2]
  have HO := Lib.hid (And.intro hO (And.intro hbw p1))
  clear hO hbw p1 hb1 hgrow
  go_simp
  refine ⟨row_other (row_other (row_other HO.out.2.2 (by show w.heap.size + 1 ≠ w.heap.size; omega) _) (by show w.heap.size + 1 ≠ w.heap.size; omega) _) (by show w.heap.size + 1 ≠ w.heap.size; omega) _, ?_⟩
  refine rest_end ?_
  have hz3 : w.heap.size + 1 < w1.heap.size := by omega
  go_wp2
  refine bodyPost_ret (v := .agg #[.int .i64 R, .int .i64 C, .slice (some ⟨g, 0, none⟩) n c']) (by simp [results, Try.results36, go_sem, k2, hz3]) rfl ⟨_, _, rfl, ?_, ?_⟩
  · have m2 := fun i : Nat => (show (⟨w.heap.size + 1, i, none⟩ : Addr).block ≠ g from Ne.symm n1)
    exact (((HO.out.1.base (base' := w.heap.size) (Nat.le_of_lt (Nat.lt_of_succ_lt hzW))).set (m2 0) _).set (m2 1) _).set (m2 2) _
  · have m2 := fun i : Nat => (show w.heap.size ≤ (⟨w.heap.size + 1, i, none⟩ : Addr).block from Nat.le_succ _)
    exact ((HO.out.2.1.setCell (m2 0) _).setCell (m2 1) _).setCell (m2 2) _

theorem own_later {w w1 : World} {base : Nat} {e : TypeId} {size : Nat} {v : Value} {n : Nat} {xs : List Value} (h : w.ownsRow base e size v n xs) (hb : BL w w1) : w1.ownsRow base e size v n xs :=
  ⟨h.1, h.2.imp id fun ⟨g, cap, cur, h1, h2, h3, h4⟩ => ⟨g, cap, cur, h1, h2, hb.row h3, h4⟩⟩
/-- A list that grows number by number; nil, where none has come. -/
def GrowL (w : World) (base : Nat) (v : Value) (n : Nat) (F : Nat → Nat) : Prop := (v = .slice none 0 0 ∧ n = 0) ∨ ∃ g c, v = .slice (some ⟨g, 0, none⟩) n c ∧ OwnL w base g c n F
set_option maxHeartbeats 2000000 in
theorem mcol_calls (b o n c : Nat) (R C j : Nat) (X : Nat → Nat → Nat) (w : World) (hR : R ≤ 64) (hC : C ≤ 64) (hj : j < C) (hn : R * C ≤ n) (hn4 : n ≤ 4096) (hX : XAt w b o 0 1 (R * C) (rowT X C)) :
    Calls Try.prog 38 #[.agg #[.int .i64 R, .int .i64 C, .slice (some ⟨b, o, none⟩) n c], .int .i64 j] w
      fun e w' => ∃ v, e = .returned v ∧ GrowL w' w.heap.size v R (fun i => X i j) ∧ Below w.heap.size w w' := by
  obtain ⟨i0, hi, hz0, hz1, hz2⟩ := info_parts infoF64
  have hlim : lim = 140737488355328 := lim_eq
  have HA := Lib.hid hX
  clear hX
  go_enter Try.func38, Try.ntmps38
  go_wp2
  refine gen_world (fun W hW => ?_)
  have hB : BL w W := by rw [hW]; exact (Below.refl _ _).alloc (Nat.le_refl _) _
  have r1 : W.heap[w.heap.size]? = some (.cells #[.int .i64 R, .int .i64 C, .slice (some ⟨b, o, none⟩) n c] 31 (0, 0)) := by rw [hW]; exact new_row _ _
  clear hW
  go_loopw [5, 6] (fun v iv wr => ∃ i : Nat, ∃ L : List Nat, i ≤ R ∧ iv = .int .i64 i ∧ BL W wr ∧ wr.ownsRow W.heap.size 45 1 v i (L.map (Value.float .f64)) ∧ (v = .slice none 0 0 → i = 0) ∧ (∀ k u, L[k]? = some u → u < 18446744073709551616 ∧ cn u = X k j)) (fun _ iv _ => (R - intOf iv).toNat)
  case atStart => exact ⟨0, [], Nat.zero_le _, rfl, BL.refl _, World.ownsRow_nil _ _ _ _, fun _ => rfl, fun k u h => by cases h⟩
  case round =>
    obtain ⟨i, L, hi2, rfl, hwr, hown, hnil, hL⟩ := hrel
    have k1 := cells_of (hwr.row r1)
    by_cases hlt : i < R
    · obtain ⟨v0, hv0, cv0, xv0⟩ := HA.out.one (row_lt hlt hj)
      have hp0 := row_lt hlt hj
      have cv1 := hwr.cell (hB.cell cv0)
      have e1 : rowT X C (i * C + j) = X i j := by unfold rowT; rw [(row_div hj).1, (row_div hj).2]
      have hll : L.length = i := by have := hown.1; simpa using this
      have HX := Lib.hid (And.intro hwr (And.intro hown (And.intro hnil (And.intro hL (And.intro (xv0.trans e1) hll)))))
      clear hwr hown hnil hL xv0 cv0 e1 hll
      go_wp2_with fail
      refine (mat_at b o n c R C i j C (i * C + j) v0 _ rfl rfl (by omega) (by omega) cv1).mono ?_
      rintro e w2 ⟨rfl, hb2⟩
      clear k1
      have hb2w := BL.call HX.out.1 hb2
      have hown2 := own_later HX.out.2.1 hb2
      go_wp2_with (at_builtin; refine wpList_append_own _ rfl (.tmp 13) (.tmp 18) 22 rfl W.heap.size 45 i0 (.float .f64 0) 1 8 Try.underlying22 hi hz0 hz1 hz2 rfl (by decide) _ i _ rfl (hown2.alloc _) ⟨w2.heap.size, 0, none⟩ 1 1 [.float .f64 v0] rfl rfl ?c1 ?c2 (by unfold maxLen; omega) (by omega) (by have := hb2w.size; simp; omega) ?_)
      case c1 =>
        intro k u hk
        match k, hk with
        | 0, hk => simp at hk; subst hk; simp [Addr.add]
      case c2 => intro u hu; simp at hu; subst hu; rfl
      intro v' w3 hown' hgrow hnil'
      have hb3 : Below W.heap.size W w3 := (hb2w.alloc hb2w.size _).grown hgrow (by have := hb2w.size; simp; omega) (fun j hj => by
        rcases hown2.2 with ⟨rfl, _⟩ | ⟨g, cap, cur, rfl, hbg, _⟩
        · cases hj
        · cases hj; exact hbg)
      have hL' : ∀ k u, (L ++ [v0])[k]? = some u → u < 18446744073709551616 ∧ cn u = X k j := fun k u hk => by
        by_cases hki : k < i
        · rw [List.getElem?_append_left (by rw [HX.out.2.2.2.2.2]; exact hki)] at hk; exact HX.out.2.2.2.1 k u hk
        · have hkl := (List.getElem?_eq_some_iff.1 hk).1
          rw [List.length_append, HX.out.2.2.2.2.2, List.length_singleton] at hkl
          obtain rfl : k = i := by omega
          rw [List.getElem?_append_right (by rw [HX.out.2.2.2.2.2]; exact Nat.le_refl _), HX.out.2.2.2.2.2, Nat.sub_self] at hk
          cases hk
          exact ⟨hv0, HX.out.2.2.2.2.1⟩
      have HN := Lib.hid (And.intro hown' (And.intro hb3 (And.intro hL' hnil')))
      clear hown' hb3 hL' hnil' hgrow hown2 hb2w hb2
      go_wp2
      go_roundw
      case rel => exact ⟨i + 1, L ++ [v0], by omega, by go_num, HN.out.2.1, by rw [List.map_append]; exact HN.out.1, fun h => absurd h HN.out.2.2.2, HN.out.2.2.1⟩
      case measure => first | (simp [intOf]; done) | (simp [intOf]; omega)
    · obtain rfl : i = R := by omega
      have hz := hwr.size
      have hgl : GrowL wr w.heap.size u5 i (fun k => X k j) := by
        by_cases hv : u5 = .slice none 0 0
        · exact .inl ⟨hv, hnil hv⟩
        · obtain ⟨g, c', e, hO⟩ := OwnL.of_own hown hv hL
          exact .inr ⟨g, c', e, hO.base hB.size⟩
      have HX := Lib.hid (And.intro hgl (BL.call hB hwr))
      clear hgl hwr hown hnil hL
      go_wp2
      go_ret
      exact ⟨_, rfl, HX.out.1, HX.out.2⟩
end Go.Proofs.Ytapilgbbkbfcbaa
