/- References 01 and 03: lists that are compared, copied: what they compute. -/
import Derived.Test.YtapilgbbkbfcbaaL1
import Derived.Sort.Grow
namespace Go.Proofs.Ytapilgbbkbfcbaa
open Go Go.RowKit

/-- A list's numbers. -/
def LAt (w : World) (A : Option Addr) (n : Nat) (F : Nat → Nat) : Prop := 0 < n → ∃ b o, A = some ⟨b, o, none⟩ ∧ XAt w b o 0 1 n F
theorem XAt.one {w : World} {b o n : Nat} {F : Nat → Nat} (h : XAt w b o 0 1 n F) {i : Nat} (hi : i < n) : ∃ v, v < 18446744073709551616 ∧ w.cell? ⟨b, o + i, none⟩ = some (.float .f64 v) ∧ cn v = F i := by
  obtain ⟨v, hv, hc, hx⟩ := h i hi
  rw [show (0 + (i : Int) * 1).toNat = i by omega] at hc
  exact ⟨v, hv, hc, hx⟩
theorem XAt.of_one {w : World} {b o n : Nat} {F : Nat → Nat} (h : ∀ i, i < n → ∃ v, v < 18446744073709551616 ∧ w.cell? ⟨b, o + i, none⟩ = some (.float .f64 v) ∧ cn v = F i) : XAt w b o 0 1 n F := fun i hi => by
  obtain ⟨v, hv, hc, hx⟩ := h i hi
  rw [show (0 + (i : Int) * 1).toNat = i by omega]
  exact ⟨v, hv, hc, hx⟩
theorem LAt.later {w w1 : World} {A : Option Addr} {n : Nat} {F : Nat → Nat} (h : LAt w A n F) (hb : BL w w1) : LAt w1 A n F := fun h0 => let ⟨b, o, e, hx⟩ := h h0; ⟨b, o, e, hx.later hb⟩
theorem sameB_of {u v x y : Nat} (hu : cn u = x) (hv : cn v = y) : sameB u v = decide (x = y) := by subst hu hv; rfl

set_option maxRecDepth 100000
set_option maxHeartbeats 1000000 in
theorem all_calls (A B : Option Addr) (n cA m cB : Nat) (F G : Nat → Nat) (w : World) (hA : LAt w A n F) (hB : LAt w B m G) (hn : n ≤ maxLen) (hm : m ≤ maxLen) (r : Bool) (hr : r = true ↔ n = m ∧ ∀ i, i < n → F i = G i) :
    Calls Try.prog 16 #[.slice A n cA, .slice B m cB] w fun e w' => e = .returned (.bool r) ∧ Below w.heap.size w w' := by
  unfold maxLen at hn hm
  by_cases hnm : n = m
  · subst hnm
    have HR := Lib.hid (show r = true ↔ ∀ i, i < n → F i = G i from ⟨fun h => (hr.1 h).2, fun h => hr.2 ⟨rfl, h⟩⟩)
    clear hr
    by_cases h0 : n = 0
    · have R1 := Lib.hid (show r = true from HR.out.2 fun i hi => absurd hi (by omega))
      clear hA hB HR
      subst h0
      go_enter Try.func16, Try.ntmps16
      go_wp2
      go_loop [5] (fun i => i = .int .i64 0) (fun _ => 0)
      case atStart => rfl
      case round =>
        obtain rfl := hrel
        go_wp2
        go_ret
        exact ⟨by rw [R1.out]; rfl, Below.refl _ _⟩
    · obtain ⟨b, o, rfl, hX⟩ := hA (by omega)
      obtain ⟨b', o', rfl, hY⟩ := hB (by omega)
      have HX := Lib.hid hX
      have HY := Lib.hid hY
      clear hA hB hX hY
      go_enter Try.func16, Try.ntmps16
      go_wp2
      go_loopw [5] (fun i wr => ∃ k : Nat, k ≤ n ∧ i = .int .i64 k ∧ BL w wr ∧ Hid (∀ j, j < k → F j = G j)) (fun i _ => (n - intOf i).toNat)
      case atStart => exact ⟨0, Nat.zero_le _, rfl, BL.refl _, Lib.hid (fun j hj => absurd hj (by omega))⟩
      case round =>
        obtain ⟨k, hk, rfl, hwr, hfg⟩ := hrel
        by_cases hlt : k < n
        · obtain ⟨u, hu, cu, xu⟩ := HX.out.one hlt
          obtain ⟨v, hv, cv, xv⟩ := HY.out.one hlt
          have cu' := hwr.cell cu
          have cv' := hwr.cell cv
          have hs := sameB_of xu xv
          have HS := Lib.hid (And.intro xu xv)
          clear cu cv xu xv
          by_cases hfk : F k = G k
          · have hs1 : sameB u v = true := by rw [hs]; exact decide_eq_true hfk
            have HK := Lib.hid hfk
            clear hs hfk
            go_wp2
            refine wp_region_calm (by kernel_rfl) (by kernel_rfl) (BL wr) (fun _ _ _ => False) (BL.refl _).drew ?_
            repeat (first
              | (refine cmMove _ (by rfl) ?_; simp only [List.set_cons_succ, List.set_cons_zero])
              | (refine cwW (by rfl) (fun K hK w' hw => ?_); have k1 := hw.cell cu'; have k2 := hw.cell cv'; go_step; refine hK _ _ hw ?_; clear hK k1 k2 hw w' K)
              | (refine cwF (fun F hF w' hw => ?_); go_simp; refine calm_call (by kernel_rfl) hw ((same_calls _ _ _ hu hv).mono (fun _ _ ⟨h1, h2⟩ => ⟨h1, h2 ▸ Below.refl _ _⟩)) (hF _ ?_); clear hF hw w' F; simp only [put_lit, List.set_cons_succ, List.set_cons_zero]))
            refine wpCalm_nil (fun w1 hw1 => ?_)
            go_wp2
            go_roundw
            case rel => exact ⟨k + 1, by omega, by go_num, hwr.call hw1, Lib.hid (fun j hj => by by_cases e : j = k; (subst e; exact HK.out); exact hfg.out j (by omega))⟩
            case measure => first | (simp [intOf]; done) | (simp [intOf]; omega)
          · have hs1 : sameB u v = false := by rw [hs]; exact decide_eq_false hfk
            have R1 := Lib.hid (show r = false by rw [← Bool.not_eq_true]; exact fun h => hfk (HR.out.1 h k hlt))
            clear hs hfk
            go_wp2
            refine wp_region_calm (by kernel_rfl) (by kernel_rfl) (BL wr) (fun _ _ _ => False) (BL.refl _).drew ?_
            repeat (first
              | (refine cmMove _ (by rfl) ?_; simp only [List.set_cons_succ, List.set_cons_zero])
              | (refine cwW (by rfl) (fun K hK w' hw => ?_); have k1 := hw.cell cu'; have k2 := hw.cell cv'; go_step; refine hK _ _ hw ?_; clear hK k1 k2 hw w' K)
              | (refine cwF (fun F hF w' hw => ?_); go_simp; refine calm_call (by kernel_rfl) hw ((same_calls _ _ _ hu hv).mono (fun _ _ ⟨h1, h2⟩ => ⟨h1, h2 ▸ Below.refl _ _⟩)) (hF _ ?_); clear hF hw w' F; simp only [put_lit, List.set_cons_succ, List.set_cons_zero]))
            refine wpCalm_nil (fun w1 hw1 => ?_)
            go_wp2
            go_ret
            exact ⟨by rw [R1.out]; rfl, hwr.call hw1⟩
        · obtain rfl : k = n := by omega
          have R1 := Lib.hid (show r = true from HR.out.2 hfg.out)
          go_wp2
          go_ret
          exact ⟨by rw [R1.out]; rfl, hwr⟩
  · have R1 := Lib.hid (show r = false by rw [← Bool.not_eq_true]; exact fun h => hnm (hr.1 h).1)
    have e1 : ((n : Int) != (m : Int)) = true := by simp; omega
    clear hr hA hB
    go_enter Try.func16, Try.ntmps16
    go_wp2
    go_ret
    exact ⟨by rw [R1.out]; rfl, Below.refl _ _⟩

/-- A list of the call's own: a row of cells from its head on. -/
def OwnL (w : World) (base g c n : Nat) (F : Nat → Nat) : Prop := base ≤ g ∧ n ≤ c ∧ c ≤ maxLen ∧ (∃ cur : Array Value, w.heap[g]? = some (.cells cur 45 (0, 0)) ∧ cur.size = c) ∧ XAt w g 0 0 1 n F
theorem OwnL.later {w w1 : World} {base g c n : Nat} {F : Nat → Nat} (h : OwnL w base g c n F) (hb : BL w w1) : OwnL w1 base g c n F := by
  obtain ⟨h1, h2, h3, ⟨cur, h4, h5⟩, h6⟩ := h
  exact ⟨h1, h2, h3, ⟨cur, hb.row h4, h5⟩, h6.later hb⟩
theorem OwnL.lt {w : World} {base g c n : Nat} {F : Nat → Nat} (h : OwnL w base g c n F) : g < w.heap.size := by
  obtain ⟨_, _, _, ⟨cur, h4, _⟩, _⟩ := h
  exact (Array.getElem?_eq_some_iff.1 h4).1
theorem OwnL.set {w : World} {base g c n : Nat} {F : Nat → Nat} (h : OwnL w base g c n F) {a : Addr} (ha : a.block ≠ g) (v : Value) : OwnL (w.setCell a v) base g c n F := by
  obtain ⟨h1, h2, h3, ⟨cur, h4, h5⟩, h6⟩ := h
  exact ⟨h1, h2, h3, ⟨cur, (Below.heap_setCell _ _ _ _ (Ne.symm ha)).trans h4, h5⟩, fun i hi => let ⟨u, hu, hc, hx⟩ := h6 i hi; ⟨u, hu, (World.cell?_of_block (w := w) (Below.heap_setCell _ _ _ _ (Ne.symm ha))).trans hc, hx⟩⟩
theorem XAt.list {w : World} {b o : Nat} {F : Nat → Nat} : ∀ {n : Nat}, XAt w b o 0 1 n F → ∃ L : List Nat, L.length = n ∧ ∀ j u, L[j]? = some u → u < 18446744073709551616 ∧ w.cell? ⟨b, o + j, none⟩ = some (.float .f64 u) ∧ cn u = F j
  | 0, _ => ⟨[], rfl, fun j u h => by cases h⟩
  | n + 1, h => by
    obtain ⟨L, hl, hL⟩ := XAt.list (n := n) (fun i hi => h i (by omega))
    obtain ⟨v, hv, hc, hx⟩ := h.one (Nat.lt_succ_self n)
    refine ⟨L ++ [v], by simp [hl], fun j u hj => ?_⟩
    by_cases hjn : j < n
    · rw [List.getElem?_append_left (by omega)] at hj; exact hL j u hj
    · rw [List.getElem?_append_right (by omega)] at hj
      have : j - L.length = 0 := by
        rcases Nat.eq_zero_or_pos (j - L.length) with h0 | h0
        · exact h0
        · rw [List.getElem?_eq_none (by simp; omega)] at hj; cases hj
      rw [this] at hj
      cases hj
      obtain rfl : j = n := by omega
      exact ⟨hv, hc, hx⟩
theorem add_none (b o j : Nat) : (⟨b, o, none⟩ : Addr).add j = ⟨b, o + j, none⟩ := by unfold Addr.add; split <;> simp_all
theorem OwnL.of_own {w : World} {base n : Nat} {v : Value} {L : List Nat} {F : Nat → Nat} (h : w.ownsRow base 45 1 v n (L.map (Value.float .f64))) (hv : v ≠ .slice none 0 0) (hL : ∀ j u, L[j]? = some u → u < 18446744073709551616 ∧ cn u = F j) :
    ∃ g c, v = .slice (some ⟨g, 0, none⟩) n c ∧ OwnL w base g c n F := by
  have hl := h.1
  rcases h.2 with ⟨rfl, _⟩ | ⟨g, cap, cur, rfl, hb, hg, h1, h2, h3, h4⟩
  · exact absurd rfl hv
  · refine ⟨g, cap, rfl, hb, h1, h2, ⟨cur, hg, by omega⟩, XAt.of_one fun i hi => ?_⟩
    have hll : i < L.length := by simp at hl; omega
    obtain ⟨hu, hx⟩ := hL i L[i] (by simp)
    refine ⟨L[i], hu, ?_, hx⟩
    rw [Nat.zero_add, h.cellAt i (by omega)]
    simp
/-- append of nothing that has no place. -/
theorem wlAppendNone {P : Program} {ops : Array Oper} {rest : List Oper} {o : Oper} {a : Act} {Q : Exit → Act → World → Prop} {w : World} (hg : o.guard = none) (s x : Operand) (t e : TypeId) (ho : o.op = .call { callee := .builtin .append, args := #[s, x], argTypes := #[t, t] })
    (ht : P.underlying t = some (.slice e)) (i : TypeInfo) (hi : P.info? e = some i) (ad : Addr) (hs : a.eval s = .slice (some ad) 0 0) (c : Nat) (hx : a.eval x = .slice none 0 c)
    (hK : wpList P ops Q rest (a.put o.dst (.slice (some ad) 0 0)) w) : wpList P ops Q (o :: rest) a w :=
  wpList_run hg (R := fun v w' => v = .slice (some ad) 0 0 ∧ w' = w) ⟨_, _, by
    simp only [execOp, ho, resolve, invoke, builtin, Sem.run_bind, Sem.run_pure, Result.andThen_ok, List.map_toArray, List.map_cons, List.map_nil, hs, hx]
    simp [Builtin.append_, run_underlying ht, sizeOf, typeInfo, hi, Builtin.lenOf, Builtin.firstCells, storeCells], rfl, rfl⟩ (fun v w' ⟨e1, e2⟩ => by subst e1; subst e2; exact hK)
theorem infoF64 : (Try.prog.info? 45).map (fun i => (i.zero, i.size, i.bytes)) = some (some (.float .f64 0), 1, 8) := by kernel_rfl

theorem new_at (w : World) (o : Obj) {k : Nat} (h : k = w.heap.size) : (w.alloc o).heap[k]? = some o := by subst h; exact new_row w o
theorem own_empty (W : World) (base r : Nat) (hr : W.heap[r]? = some (.cells #[] 45 (0, 0))) (hb : base ≤ r) : W.ownsRow base 45 1 (.slice (some ⟨r, 0, none⟩) 0 0) 0 [] :=
  ⟨rfl, .inr ⟨r, 0, #[], rfl, hb, hr, Nat.le_refl _, Nat.zero_le _, rfl, rfl⟩⟩

set_option maxHeartbeats 1000000 in
theorem apart_calls (A : Option Addr) (n c : Nat) (off rows cols ld : Int) (F : Nat → Nat) (w : World) (hA : LAt w A n F) (hn : n ≤ 1000) :
    Calls Try.prog 9 #[.agg #[.slice A n c, .int .i64 off, .int .i64 rows, .int .i64 cols, .int .i64 ld]] w
      fun e w' => ∃ g c', e = .returned (.agg #[.slice (some ⟨g, 0, none⟩) n c', .int .i64 off, .int .i64 rows, .int .i64 cols, .int .i64 ld]) ∧ OwnL w' w.heap.size g c' n F ∧ Below w.heap.size w w' := by
  obtain ⟨i0, hi, hz0, hz1, hz2⟩ := info_parts infoF64
  rcases A with _ | ⟨b, o, sp⟩
  · have hn0 : n = 0 := by
      rcases Nat.eq_zero_or_pos n with h | h
      · exact h
      · obtain ⟨b, o, e, _⟩ := hA h; cases e
    subst hn0
    clear hA
    go_enter Try.func9, Try.ntmps9
    go_wp2_with (at_builtin; refine wlAppendNone rfl (.tmp 3) (.tmp 5) 22 45 rfl Try.underlying22 i0 hi _ rfl _ rfl ?_)
    refine bodyPost_ret (v := .agg #[.slice (some ⟨w.heap.size + 1 + 1, 0, none⟩) 0 0, .int .i64 off, .int .i64 rows, .int .i64 cols, .int .i64 ld]) (by simp [results, Try.results9, go_sem]) rfl ⟨_, _, rfl, ⟨by omega, Nat.le_refl _, Nat.zero_le _, ⟨#[], new_at _ _ (by simp), rfl⟩, fun i hi => absurd hi (by omega)⟩, ?_⟩
    exact (((Below.refl _ _).alloc (Nat.le_refl _) _).alloc (by simp) _).alloc (by first | (simp; done) | (simp; omega)) _
  · obtain ⟨L, hl, hL⟩ : ∃ L : List Nat, L.length = n ∧ ∀ j u, L[j]? = some u → u < 18446744073709551616 ∧ w.cell? ((⟨b, o, sp⟩ : Addr).add j) = some (.float .f64 u) ∧ cn u = F j := by
      rcases Nat.eq_zero_or_pos n with h | h
      · exact ⟨[], h.symm, fun j u h => by cases h⟩
      · obtain ⟨b', o', e, hX⟩ := hA h
        cases e
        obtain ⟨L, h1, h2⟩ := hX.list
        exact ⟨L, h1, fun j u hj => by rw [add_none]; exact h2 j u hj⟩
    have HL := Lib.hid (And.intro hl hL)
    clear hA hl hL
    go_enter Try.func9, Try.ntmps9
    go_wp2_with (at_builtin; refine wpList_append_own _ rfl (.tmp 3) (.tmp 5) 22 rfl w.heap.size 45 i0 (.float .f64 0) 1 8 Try.underlying22 hi hz0 hz1 hz2 rfl (by decide) _ 0 [] rfl (own_empty _ _ (w.heap.size + 1 + 1) (new_at _ _ (by simp)) (by omega)) ⟨b, o, sp⟩ n c (L.map (Value.float .f64)) rfl (by rw [List.length_map, HL.out.1]; omega) ?c1 ?c2 (by unfold maxLen; omega) (by omega) (by simp; omega) ?_)
    case c1 =>
      intro j u hj
      simp only [List.getElem?_map, Option.map_eq_some_iff] at hj
      obtain ⟨x, hx, rfl⟩ := hj
      have hc := (HL.out.2 j x hx).2.1
      exact (show BL w _ from (((Below.refl _ _).alloc (Nat.le_refl _) _).alloc (by simp) _).alloc (by first | (simp; done) | (simp; omega)) _).cell hc
    case c2 =>
      intro u hu
      obtain ⟨x, _, rfl⟩ := List.mem_map.1 hu
      rfl
    intro v' w1 hown' hgrow hnil
    have r1 := (hgrow.block w.heap.size (by simp; omega) (by simp [Value.ownBlock]; omega)).trans ((Below.heap_alloc _ _ _ (by simp; omega)).trans ((Below.heap_alloc _ _ _ (by simp)).trans (new_row _ _)))
    have r2 := (hgrow.block (w.heap.size + 1) (by simp) (by simp [Value.ownBlock])).trans ((Below.heap_alloc _ _ _ (by simp)).trans (new_at _ _ (by simp)))
    have hbel : Below w.heap.size w w1 := ((((Below.refl _ _).alloc (Nat.le_refl _) _).alloc (by simp) _).alloc (by first | (simp; done) | (simp; omega)) _).grown hgrow (by simp; omega) (fun j hj => by cases hj; show w.heap.size ≤ w.heap.size + 1 + 1; omega)
    have hz1 := hgrow.size
    simp only [World.size_alloc] at hz1
    obtain ⟨g, c', rfl, hO⟩ := OwnL.of_own hown' (fun h => hnil h) (fun j u hj => let ⟨h1, _, h3⟩ := HL.out.2 j u hj; ⟨h1, h3⟩)
    obtain ⟨cur, hcur, _⟩ := hO.2.2.2.1
    have n1 : g ≠ w.heap.size := fun e => by rw [e, r1] at hcur; cases hcur
    have n2 : g ≠ w.heap.size + 1 := fun e => by rw [e, r2] at hcur; cases hcur
    have k1 := cells_of r1
    have k2 := cells_of r2
    have f1 : ∀ i, w1.frozen? ⟨w.heap.size, i, none⟩ = false := fun i => by simp [World.frozen?, r1]
    have f2 : ∀ i, w1.frozen? ⟨w.heap.size + 1, i, none⟩ = false := fun i => by simp [World.frozen?, r2]
    have HO := Lib.hid (And.intro hO (And.intro hbel (And.intro n1 n2)))
    clear hO hbel hgrow hnil hown' hcur n1 n2
    go_wp2
    refine bodyPost_ret (v := .agg #[.slice (some ⟨g, 0, none⟩) n c', .int .i64 off, .int .i64 rows, .int .i64 cols, .int .i64 ld]) (by simp [results, Try.results9, go_sem, k1, k2, hz1]) rfl ⟨_, _, rfl, ?_, ?_⟩
    · have m2 := fun i : Nat => (show (⟨w.heap.size + 1, i, none⟩ : Addr).block ≠ g from Ne.symm HO.out.2.2.2)
      exact (((((HO.out.1.set (a := ⟨w.heap.size, 0, none⟩) (Ne.symm HO.out.2.2.1) _).set (m2 0) _).set (m2 1) _).set (m2 2) _).set (m2 3) _).set (m2 4) _
    · have m2 := fun i : Nat => (show w.heap.size ≤ (⟨w.heap.size + 1, i, none⟩ : Addr).block from Nat.le_succ _)
      exact (((((HO.out.2.1.setCell (p := ⟨w.heap.size, 0, none⟩) (Nat.le_refl _) _).setCell (m2 0) _).setCell (m2 1) _).setCell (m2 2) _).setCell (m2 3) _).setCell (m2 4) _
end Go.Proofs.Ytapilgbbkbfcbaa
