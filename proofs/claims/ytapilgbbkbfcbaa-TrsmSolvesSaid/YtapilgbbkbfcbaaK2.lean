/- Reference 03: tables of matrices, lists that tables are written into: what they compute. -/
import Derived.Test.YtapilgbbkbfcbaaK1
import Derived.Test.YtapilgbbkbfcbaaA2
namespace Go.Proofs.Ytapilgbbkbfcbaa
open Go Go.RowKit

/-- The first t numbers of a list that are another's. -/
def firstN (T : Nat → Nat) (t : Nat) (X : Nat → Nat) : Nat → Nat := fun p => if p < t then T p else X p
theorem firstN_more (T : Nat → Nat) (t : Nat) (X : Nat → Nat) : firstN T (t + 1) X = upd (firstN T t X) t (T t) := by
  funext p
  unfold firstN upd
  by_cases h : p = t
  · subst h; rw [if_pos (by omega), if_pos rfl]
  · rw [if_neg h]
    show _ = if p < t then T p else X p
    by_cases h2 : p < t
    · rw [if_pos (by omega), if_pos h2]
    · rw [if_neg (by omega), if_neg h2]
theorem put_wr {w w6 w' : World} {g N p v : Nat} {X : Nat → Nat} {ob : Obj} (hx : XAt w g 0 0 1 N X) (hb : BL w w6) (hp : p < N) (hv : v < 18446744073709551616) (e : w' = (w6.setCell ⟨g, 0 + p, none⟩ (.float .f64 v)).alloc ob) :
    XAt w' g 0 0 1 N (upd X p (cn v)) ∧ WrB w w' g (fun p => p < N) := by
  subst e
  rw [Nat.zero_add]
  refine ⟨(hx.put1 hb p v hp hv).later ((Below.refl _ _).alloc (Nat.le_refl _) _), (WrB.of_below hb _ _).trans ((WrB.set w6 g p (fun p => p < N) hp _).trans (WrB.of_below ((Below.refl _ _).alloc (Nat.le_refl _) _) _ _))⟩
theorem row_div {C i j : Nat} (hj : j < C) : (i * C + j) / C = i ∧ (i * C + j) % C = j := by
  have hC : 0 < C := by omega
  refine ⟨?_, by rw [Nat.add_comm, Nat.add_mul_mod_self_right, Nat.mod_eq_of_lt hj]⟩
  rw [Nat.add_comm, Nat.add_mul_div_right _ _ hC, Nat.div_eq_of_lt hj, Nat.zero_add]
theorem row_lt {R C i j : Nat} (hi : i < R) (hj : j < C) : i * C + j < R * C := by
  have : (i + 1) * C ≤ R * C := Nat.mul_le_mul_right C (by omega)
  rw [Nat.add_mul, Nat.one_mul] at this
  omega
/-- A table in a list, row by row. -/
def rowT (X : Nat → Nat → Nat) (C : Nat) : Nat → Nat := fun p => X (p / C) (p % C)

set_option maxRecDepth 100000
set_option maxHeartbeats 4000000 in
theorem of_calls3 (A : Option Addr) (n c : Nat) (off ld : Int) (R C : Nat) (F : Nat → Nat) (w : World) (hs : (n : Int) ≤ lim) (hg : goodP n off R C ld) (h1 : I64 off) (h4 : I64 ld) (hR : R ≤ 64) (hC : C ≤ 64) (hA : LAt w A n F) :
    Calls Try.prog 13 #[.agg #[.slice A n c, .int .i64 off, .int .i64 R, .int .i64 C, .int .i64 ld]] w
      fun e w' => ∃ g, e = .returned (.agg #[.int .i64 R, .int .i64 C, .slice (some ⟨g, 0, none⟩) (R * C : Nat) (R * C : Nat)]) ∧ OwnL w' w.heap.size g (R * C) (R * C) (rowT (tab off ld F) C) ∧ Below w.heap.size w w' := by
  obtain ⟨N, hN⟩ : ∃ N, N = R * C := ⟨_, rfl⟩
  have hN4 : N ≤ 4096 := by rw [hN]; exact Nat.le_trans (Nat.mul_le_mul hR hC) (by omega)
  have hlim : lim = 140737488355328 := lim_eq
  have HN := Lib.hid (And.intro hN (And.intro hg hA))
  have s1 := hs
  unfold lim at s1
  unfold I64 at h1 h4
  have hnew := new_calls R C
  rw [← hN] at hnew ⊢
  clear hN hg hA
  go_enter Try.func13, Try.ntmps13
  go_wp2_with fail
  refine gen_call (fun W hW => ?_)
  have hB : BL w W := by rw [hW]; exact ((Below.refl _ _).alloc (Nat.le_refl _) _).alloc (by simp) _
  have hbm : W.heap[w.heap.size]? = some (.cells #[.slice A n c, .int .i64 off, .int .i64 R, .int .i64 C, .int .i64 ld] 24 (0, 0)) := by
    rw [hW]; rw [Below.heap_alloc _ _ _ (by first | (simp; done) | (simp; omega))]; exact new_row _ _
  have hbr : W.heap[w.heap.size + 1]? = some (.cells #[.int .i64 0, .int .i64 0, .slice none 0 0] 31 (0, 0)) := by rw [hW]; exact new_at _ _ (by simp)
  clear hW
  refine (hnew W hR hC).mono ?_
  rintro e w1 ⟨g, rfl, hO, hb1⟩
  clear hnew
  have hz1 := hb1.size
  have hzW : w.heap.size + 1 < W.heap.size := (Array.getElem?_eq_some_iff.1 hbr).1
  go_wp2
  refine gen_world (fun W2 hW2 => ?_)
  have hB2 : BL w1 W2 := by rw [hW2]; exact (Below.refl _ _).alloc (Nat.le_refl _) _
  have hbo : W2.heap[w1.heap.size]? = some (.cells #[.int .i64 R, .int .i64 C, .slice (some ⟨g, 0, none⟩) N N] 31 (0, 0)) := by rw [hW2]; exact new_row _ _
  clear hW2
  have hO2 := hO.later hB2
  have hBW2 : BL W W2 := BL.call hb1 hB2
  have hbm2 := hBW2.row hbm
  have hbr2 := hBW2.row hbr
  have hgW : W.heap.size ≤ g := hO.1
  have hg1 : g < w1.heap.size := hO.lt
  have HW := Lib.hid (And.intro hO2 (And.intro hbr2 (BL.call hB hBW2)))
  clear hO hO2 hbr hbr2 hbm hBW2 hB2 hb1
  go_loopw [4] (fun iv wr => ∃ i : Nat, i ≤ R ∧ iv = .int .i64 i ∧ WrB W2 wr g (fun p => p < N) ∧ XAt wr g 0 0 1 N (firstN (rowT (tab off ld F) C) (i * C) (fun _ => 0))) (fun iv _ => (R - intOf iv).toNat)
  case atStart => exact ⟨0, Nat.zero_le _, rfl, WrB.refl _ _ _, HW.out.1.2.2.2.2.congr fun i _ => by unfold firstN; rw [if_neg (by omega)]⟩
  case round =>
    obtain ⟨i, hi, rfl, hwr, hxr⟩ := hrel
    by_cases hlt : i < R
    · obtain ⟨wo, hwo⟩ : ∃ wo : World, wo = wr := ⟨_, rfl⟩
      rw [← hwo] at hwr hxr ⊢
      clear hwo wr
      have q1 := hwr.keep hbm2 (by omega)
      have k1 := cells_of q1
      have HXR := Lib.hid (And.intro hwr hxr)
      clear hwr hxr
      go_wp2
      clear k1 q1
      go_loopw [5] (fun jv wr => ∃ j : Nat, j ≤ C ∧ jv = .int .i64 j ∧ WrB W2 wr g (fun p => p < N) ∧ XAt wr g 0 0 1 N (firstN (rowT (tab off ld F) C) (i * C + j) (fun _ => 0))) (fun jv _ => (C - intOf jv).toNat)
      case atStart => exact ⟨0, Nat.zero_le _, rfl, HXR.out.1, HXR.out.2⟩
      case round =>
        obtain ⟨j, hj, rfl, hwr, hxr⟩ := hrel
        by_cases hlt2 : j < C
        · have hp : i * C + j < N := by rw [HN.out.1]; exact row_lt hlt hlt2
          obtain ⟨g1', g2', g3', g4'⟩ := good_at (i := i) (j := j) HN.out.2.1 (by omega) (by omega) (by omega) (by omega)
          obtain ⟨b, o, rfl, hX⟩ := HN.out.2.2 (by omega)
          obtain ⟨v, hv, cv, xv⟩ := (MAt.of_list hX HN.out.2.1) i j hlt hlt2
          have hbl : b < w.heap.size := World.block_lt_of_cell? w _ cv
          have cv1 := hwr.cell (HW.out.2.2.cell cv) (.inl (by omega))
          obtain ⟨u, _, cu, _⟩ := hxr.one hp
          have hfz : wr.frozen? ⟨g, 0 + (i * C + j), none⟩ = false := by
            obtain ⟨u2, _, cu2, _⟩ := HW.out.1.2.2.2.2.one hp
            rw [hwr.frozen cu2]; exact HW.out.1.fz (fun _ => True) _ trivial
          have q1 := hwr.keep hbm2 (by omega)
          have q2 := hwr.keep hbo (by omega)
          have k1 := cells_of q1
          have HX := Lib.hid (And.intro hwr (And.intro hxr xv))
          clear hwr hxr xv hX cv
          obtain ⟨q, hq⟩ : ∃ q, q = (j : Int) * ld := ⟨_, rfl⟩
          rw [← hq] at cv1 g1' g3'
          have eq : (j : Int) * ld = q := hq.symm
          clear hq
          go_wp2
          clear k1
          refine wp_region_calm_tail 16 (by kernel_rfl) (by kernel_rfl) (BL wr) (fun _ _ _ => False) (BL.refl _).drew ?_
          simp only [List.take_succ_cons, List.take_zero, List.drop_succ_cons, List.drop_zero]
          repeat (first
            | (refine cmMove _ (by rfl) ?_; simp only [List.set_cons_succ, List.set_cons_zero])
            | (refine cwW (by rfl) (fun K hK w' hw => ?_); have k1 := cells_of (hw.row q1); have k2 := cells_of (hw.row q2); have k3 := hw.cell cv1; go_step; refine hK _ _ hw ?_; clear hK k1 k2 k3 hw w' K))
          refine wpCalm_nil (fun w6 hw6 => ?_)
          go_wp2_with fail
          refine (mat_set g 0 N N R C i j C (i * C + j) v u w6 rfl rfl hp (by omega) (hw6.cell cu) (by rw [hw6.frozen (World.block_lt_of_cell? _ _ cu)]; exact hfz)).mono ?_
          rintro e w7 ⟨rfl, ob, hw7⟩
          have HP := Lib.hid (put_wr HX.out.2.1 hw6 hp hv hw7)
          clear hw7
          go_wp2
          go_roundw
          case rel =>
            refine ⟨j + 1, by omega, by go_num, HX.out.1.trans HP.out.2, ?_⟩
            have e1 : rowT (tab off ld F) C (i * C + j) = tab off ld F i j := by unfold rowT; rw [(row_div hlt2).1, (row_div hlt2).2]
            rw [show i * C + (j + 1) = i * C + j + 1 by omega, firstN_more, e1, ← HX.out.2.2]
            exact HP.out.1
          case measure => first | (simp [intOf]; done) | (simp [intOf]; omega)
        · obtain rfl : j = C := by omega
          have q1 := hwr.keep hbm2 (by omega)
          have k1 := cells_of q1
          have HX := Lib.hid (And.intro hwr hxr)
          clear hwr hxr q1
          go_wp2
          go_roundw
          case rel => exact ⟨i + 1, by omega, by go_num, HX.out.1, by rw [Nat.add_mul, Nat.one_mul]; exact HX.out.2⟩
          case measure => first | (simp [intOf]; done) | (simp [intOf]; omega)
    · obtain rfl : i = R := by omega
      have q1 := hwr.keep hbm2 (by omega)
      have q2 := hwr.keep hbo (by omega)
      have q3 := hwr.keep HW.out.2.1 (by omega)
      have k1 := cells_of q1
      have k2 := cells_of q2
      have k3 := cells_of q3
      have f3 : ∀ i, wr.frozen? ⟨w.heap.size + 1, i, none⟩ = false := fun i => by simp [World.frozen?, q3]
      have hz := hwr.size
      have hz2 : w1.heap.size < W2.heap.size := (Array.getElem?_eq_some_iff.1 hbo).1
      have hz3 : w.heap.size + 1 < wr.heap.size := by omega
      have HX := Lib.hid (And.intro hwr hxr)
      clear hwr hxr q1 q2 q3
      go_wp2
      have hO3 := HW.out.1.wrote HX.out.1 (fun _ => HX.out.2.congr fun p hp => by unfold firstN; rw [if_pos (by rw [← HN.out.1]; exact hp)])
      have hbw : Below w.heap.size w wr := by
        have h1 := HW.out.2.2
        exact ⟨HX.out.1.os.trans h1.os, HX.out.1.tape.trans h1.tape, HX.out.1.output.trans h1.output, Nat.le_trans h1.size HX.out.1.size, fun j hj => (HX.out.1.other j (Nat.lt_of_lt_of_le hj h1.size) (by omega)).trans (h1.block j hj)⟩
      refine bodyPost_ret (v := .agg #[.int .i64 i, .int .i64 C, .slice (some ⟨g, 0, none⟩) N N]) (by simp [results, Try.results13, go_sem, k1, k2, k3, hz3]) rfl ⟨_, rfl, ?_, ?_⟩
      · have m2 := fun i : Nat => (show (⟨w.heap.size + 1, i, none⟩ : Addr).block ≠ g by show w.heap.size + 1 ≠ g; omega)
        exact (((hO3.base (base' := w.heap.size) hB.size).set (m2 0) _).set (m2 1) _).set (m2 2) _
      · have m2 := fun i : Nat => (show w.heap.size ≤ (⟨w.heap.size + 1, i, none⟩ : Addr).block from Nat.le_succ _)
        exact ((hbw.setCell (m2 0) _).setCell (m2 1) _).setCell (m2 2) _

/-! ### A table written into a list -/
/-- Rows ahead of i are there, and of row i the numbers ahead of j. -/
def intoS (off ld : Int) (R C : Nat) (Y : Nat → Nat → Nat) (F : Nat → Nat) (i j : Nat) : Nat → Nat :=
  fun p => if off.toNat ≤ p ∧ (p - off.toNat) % ld.toNat < R ∧ (p - off.toNat) / ld.toNat < C ∧ ((p - off.toNat) % ld.toNat < i ∨ (p - off.toNat) % ld.toNat = i ∧ (p - off.toNat) / ld.toNat < j) then Y ((p - off.toNat) % ld.toNat) ((p - off.toNat) / ld.toNat) else F p
theorem intoS_none (off ld : Int) (R C : Nat) (Y : Nat → Nat → Nat) (F : Nat → Nat) : intoS off ld R C Y F 0 0 = F := by
  funext p; unfold intoS
  generalize (p - off.toNat) % ld.toNat = a
  generalize (p - off.toNat) / ld.toNat = b
  rw [if_neg (by omega)]
theorem intoS_row (off ld : Int) (R C : Nat) (Y : Nat → Nat → Nat) (F : Nat → Nat) (i : Nat) : intoS off ld R C Y F i C = intoS off ld R C Y F (i + 1) 0 := by
  funext p
  unfold intoS
  generalize (p - off.toNat) % ld.toNat = a
  generalize (p - off.toNat) / ld.toNat = b
  by_cases h : off.toNat ≤ p ∧ a < R ∧ b < C ∧ (a < i ∨ a = i ∧ b < C)
  · rw [if_pos h, if_pos (by omega)]
  · rw [if_neg h, if_neg (by omega)]
theorem intoS_all (off ld : Int) (R C : Nat) (Y : Nat → Nat → Nat) (F : Nat → Nat) : intoS off ld R C Y F R 0 = intoN off ld R C Y F := by
  funext p
  unfold intoS intoN
  generalize (p - off.toNat) % ld.toNat = a
  generalize (p - off.toNat) / ld.toNat = b
  by_cases h : off.toNat ≤ p ∧ a < R ∧ b < C
  · rw [if_pos h, if_pos (by omega)]
  · rw [if_neg h, if_neg (by omega)]
theorem intoS_more {off ld : Int} {R C : Nat} {Y : Nat → Nat → Nat} {F : Nat → Nat} {i j p : Nat} (ho : 0 ≤ off) (hR : (R : Int) ≤ ld) (hi : i < R) (hj : j < C) (hp : (p : Int) = off + i + j * ld) : intoS off ld R C Y F i (j + 1) = upd (intoS off ld R C Y F i j) p (Y i j) := by
  obtain ⟨d1, d2, d3⟩ := place_div ho hR hi hp
  funext q
  unfold upd
  by_cases hq : q = p
  · subst hq
    rw [if_pos rfl]
    unfold intoS
    rw [if_pos (by omega), d2, d3]
  · rw [if_neg hq]
    have hne : ¬ (off.toNat ≤ q ∧ (q - off.toNat) % ld.toNat = i ∧ (q - off.toNat) / ld.toNat = j) := by
      rintro ⟨h1, h2, h3⟩
      have e := Nat.mod_add_div (q - off.toNat) ld.toNat
      have e' := Nat.mod_add_div (p - off.toNat) ld.toNat
      rw [h2, h3] at e
      rw [d2, d3] at e'
      omega
    unfold intoS
    generalize (q - off.toNat) % ld.toNat = a at hne
    generalize (q - off.toNat) / ld.toNat = b at hne
    by_cases h : off.toNat ≤ q ∧ a < R ∧ b < C ∧ (a < i ∨ a = i ∧ b < j)
    · rw [if_pos h, if_pos (by omega)]
    · rw [if_neg h, if_neg (by omega)]

/-- A list is copied: the step at append. -/
theorem copy_list {w : World} {b o n : Nat} {F : Nat → Nat} {sp : Option Nat} (hA : LAt w (some ⟨b, o, sp⟩) n F) : ∃ L : List Nat, L.length = n ∧ ∀ j u, L[j]? = some u → u < 18446744073709551616 ∧ w.cell? ((⟨b, o, sp⟩ : Addr).add j) = some (.float .f64 u) ∧ cn u = F j := by
  rcases Nat.eq_zero_or_pos n with h | h
  · exact ⟨[], h.symm, fun j u h => by cases h⟩
  · obtain ⟨b', o', e, hX⟩ := hA h
    cases e
    obtain ⟨L, h1, h2⟩ := hX.list
    exact ⟨L, h1, fun j u hj => by rw [add_none]; exact h2 j u hj⟩
theorem wlCopy {ops : Array Oper} {rest : List Oper} {d : Option Tmp} {a : Act} {Q : Exit → Act → World → Prop} {w : World} {ty : TypeId} {p : String} {af : Array Edge} (s x : Operand) (base r : Nat) (A : Option Addr) (n c : Nat) (F : Nat → Nat) (hs : a.eval s = .slice (some ⟨r, 0, none⟩) 0 0) (hr : w.heap[r]? = some (.cells #[] 45 (0, 0))) (hb : base ≤ r) (hbz : base ≤ w.heap.size)
    (hx : a.eval x = .slice A n c) (hA : LAt w A n F) (hn : n ≤ 4096)
    (hK : ∀ g c' w1, OwnL w1 base g c' n F → w.grownBy w1 (some r) → wpList Try.prog ops Q rest (a.put d (.slice (some ⟨g, 0, none⟩) n c')) w1) : wpList Try.prog ops Q (⟨d, .call { callee := .builtin .append, args := #[s, x], argTypes := #[22, 22] }, ty, p, af, none⟩ :: rest) a w := by
  obtain ⟨i0, hi, hz0, hz1, hz2⟩ := info_parts infoF64
  rcases A with _ | ⟨b, o, sp⟩
  · have hn0 : n = 0 := by
      rcases Nat.eq_zero_or_pos n with h | h
      · exact h
      · obtain ⟨b, o, e, _⟩ := hA h; cases e
    subst hn0
    refine wlAppendNone rfl s x 22 45 rfl Try.underlying22 i0 hi ⟨r, 0, none⟩ hs c hx (hK r 0 w ⟨hb, Nat.le_refl _, Nat.zero_le _, ⟨_, hr, rfl⟩, fun i hi => absurd hi (by omega)⟩ (World.grownBy.refl w _))
  · obtain ⟨L, hl, hL⟩ := copy_list hA
    refine wpList_append_own _ rfl s x 22 rfl base 45 i0 (.float .f64 0) 1 8 Try.underlying22 hi hz0 hz1 hz2 rfl (by decide) _ 0 [] hs (own_empty _ _ r hr hb) ⟨b, o, sp⟩ n c (L.map (Value.float .f64)) hx (by rw [List.length_map, hl]; omega) (fun j u hj => ?_) (fun u hu => ?_) (by unfold maxLen; omega) (by omega) hbz (fun v' w1 hown' hgrow hnil => ?_)
    · simp only [List.getElem?_map, Option.map_eq_some_iff] at hj
      obtain ⟨x, hx, rfl⟩ := hj
      exact (hL j x hx).2.1
    · obtain ⟨x, _, rfl⟩ := List.mem_map.1 hu
      rfl
    · rw [Nat.zero_add, List.nil_append] at hown'
      obtain ⟨g, c', rfl, hO⟩ := OwnL.of_own hown' (fun h => by have := (hnil.1 h).1; cases this) (fun j u hj => let ⟨h1, _, h3⟩ := hL j u hj; ⟨h1, h3⟩)
      exact hK g c' w1 hO hgrow

set_option maxHeartbeats 4000000 in
theorem into_calls (A : Option Addr) (n c : Nat) (off ld : Int) (Rm Cm : Int) (R C : Nat) (bt ot nt ct : Nat) (F : Nat → Nat) (Y : Nat → Nat → Nat) (w : World) (hs : (n : Int) ≤ lim) (hn4 : n ≤ 4096) (hg : goodP n off R C ld) (h1 : I64 off) (h4 : I64 ld) (hR : R ≤ 64) (hC : C ≤ 64) (hA : LAt w A n F) (hnt : R * C ≤ nt) (hnt4 : nt ≤ 4096)
    (hT : XAt w bt ot 0 1 (R * C) (rowT Y C)) :
    Calls Try.prog 17 #[.agg #[.slice A n c, .int .i64 off, .int .i64 Rm, .int .i64 Cm, .int .i64 ld], .agg #[.int .i64 R, .int .i64 C, .slice (some ⟨bt, ot, none⟩) nt ct]] w
      fun e w' => ∃ g c', e = .returned (.slice (some ⟨g, 0, none⟩) n c') ∧ OwnL w' w.heap.size g c' n (intoN off ld R C Y F) ∧ Below w.heap.size w w' := by
  have hlim : lim = 140737488355328 := lim_eq
  have HN := Lib.hid (And.intro hg (And.intro hA hT))
  have s1 := hs
  unfold lim at s1
  unfold I64 at h1 h4
  clear hg hA hT
  go_enter Try.func17, Try.ntmps17
  go_wp2_with (at_builtin; refine wlCopy (.tmp 8) (.tmp 10) w.heap.size (w.heap.size + 1 + 1) A n c F rfl (new_at _ _ (by simp)) (by omega) (by simp; omega) rfl (HN.out.2.1.later ((((Below.refl _ _).alloc (Nat.le_refl _) _).alloc (by simp) _).alloc (by first | (simp; done) | (simp; omega)) _)) hn4 (fun g c' w1 hO hgrow => ?_))
  have r1 := (hgrow.block w.heap.size (by simp; omega) (by simp; omega)).trans ((Below.heap_alloc _ _ _ (by simp; omega)).trans ((Below.heap_alloc _ _ _ (by simp)).trans (new_row _ _)))
  have r2 := (hgrow.block (w.heap.size + 1) (by simp) (by simp)).trans ((Below.heap_alloc _ _ _ (by simp)).trans (new_at _ _ (by simp)))
  have hbel : Below w.heap.size w w1 := ((((Below.refl _ _).alloc (Nat.le_refl _) _).alloc (by simp) _).alloc (by first | (simp; done) | (simp; omega)) _).grown hgrow (by simp; omega) (fun j hj => by cases hj; omega)
  have hz1 := hgrow.size
  simp only [World.size_alloc] at hz1
  obtain ⟨cur, hcur, _⟩ := hO.2.2.2.1
  have n1 : g ≠ w.heap.size := fun e => by rw [e, r1] at hcur; cases hcur
  have n2 : g ≠ w.heap.size + 1 := fun e => by rw [e, r2] at hcur; cases hcur
  have hgw := hO.1
  have HO := Lib.hid (And.intro hO hbel)
  clear hO hbel hgrow hcur
  go_wp2
  have hgz : g < w1.heap.size := HO.out.1.lt
  go_loopw [6] (fun iv wr => ∃ i : Nat, i ≤ R ∧ iv = .int .i64 i ∧ WrB w1 wr g (fun p => p < n) ∧ XAt wr g 0 0 1 n (intoS off ld R C Y F i 0)) (fun iv _ => (R - intOf iv).toNat)
  case atStart => exact ⟨0, Nat.zero_le _, rfl, WrB.refl _ _ _, by rw [intoS_none]; exact HO.out.1.2.2.2.2⟩
  case round =>
    obtain ⟨i, hi, rfl, hwr, hxr⟩ := hrel
    by_cases hlt : i < R
    · obtain ⟨wo, hwo⟩ : ∃ wo : World, wo = wr := ⟨_, rfl⟩
      rw [← hwo] at hwr hxr ⊢
      clear hwo wr
      have k1 := cells_of (hwr.keep r1 n1.symm)
      have k2 := cells_of (hwr.keep r2 n2.symm)
      have HXR := Lib.hid (And.intro hwr hxr)
      clear hwr hxr
      go_wp2
      clear k1 k2
      go_loopw [7] (fun jv wr => ∃ j : Nat, j ≤ C ∧ jv = .int .i64 j ∧ WrB w1 wr g (fun p => p < n) ∧ XAt wr g 0 0 1 n (intoS off ld R C Y F i j)) (fun jv _ => (C - intOf jv).toNat)
      case atStart => exact ⟨0, Nat.zero_le _, rfl, HXR.out.1, HXR.out.2⟩
      case round =>
        obtain ⟨j, hj, rfl, hwr, hxr⟩ := hrel
        have q1 := hwr.keep r1 n1.symm
        have q2 := hwr.keep r2 n2.symm
        have k2 := cells_of q2
        by_cases hlt2 : j < C
        · have hp0 := row_lt hlt hlt2
          obtain ⟨g1', g2', g3', g4'⟩ := good_at (i := i) (j := j) HN.out.1 (by omega) (by omega) (by omega) (by omega)
          obtain ⟨p, hp1, hp2, hp3⟩ := tab_place (i := i) (j := j) HN.out.1 (by omega) (by omega)
          have hpn : p < n := by omega
          obtain ⟨v, hv, cv, xv⟩ := HN.out.2.2.one hp0
          have hbl : bt < w.heap.size := World.block_lt_of_cell? w _ cv
          have cv1 := hwr.cell ((show BL w w1 from HO.out.2).cell cv) (.inl (by omega))
          obtain ⟨u, _, cu, _⟩ := hxr.one hpn
          have hfz : wr.frozen? ⟨g, 0 + p, none⟩ = false := by
            obtain ⟨u2, _, cu2, _⟩ := HO.out.1.2.2.2.2.one hpn
            rw [hwr.frozen cu2]; exact HO.out.1.fz (fun _ => True) _ trivial
          rw [Nat.zero_add] at cu hfz
          have HX := Lib.hid (And.intro hwr (And.intro hxr (And.intro xv hp1)))
          obtain ⟨q, hq⟩ : ∃ q, q = (j : Int) * ld := ⟨_, rfl⟩
          rw [← hq] at hp1 g1' g3'
          have eq : (j : Int) * ld = q := hq.symm
          have ep : off + (i : Int) + q = p := hp1.symm
          clear hwr hxr xv cv hq hp1 hp3
          go_wp2
          clear k2
          refine wp_region_calm_tail 14 (by kernel_rfl) (by kernel_rfl) (BL wr) (fun _ _ _ => False) (BL.refl _).drew ?_
          simp only [List.take_succ_cons, List.take_zero, List.drop_succ_cons, List.drop_zero]
          repeat (first
            | (refine cmMove _ (by rfl) ?_; simp only [List.set_cons_succ, List.set_cons_zero])
            | (refine cwW (by rfl) (fun K hK w' hw => ?_); have k1 := cells_of (hw.row q1); have k2 := cells_of (hw.row q2); go_step; refine hK _ _ hw ?_; clear hK k1 k2 hw w' K)
            | (refine cwF (fun F hF w' hw => ?_); go_simp; with_reducible refine calm_call (by kernel_rfl) hw (mat_at bt ot nt ct R C i j C (i * C + j) v w' rfl rfl (by omega) (by omega) (hw.cell cv1)) (hF _ ?_); clear hF hw w' F; simp only [put_lit, List.set_cons_succ, List.set_cons_zero]))
          refine wpCalm_nil (fun w6 hw6 => ?_)
          have cu6 := hw6.cell cu
          have fz6 : w6.frozen? ⟨g, p, none⟩ = false := by rw [hw6.frozen (World.block_lt_of_cell? _ _ cu)]; exact hfz
          go_wp2
          go_roundw
          case rel =>
            refine ⟨j + 1, by omega, by go_num, HX.out.1.trans ((WrB.of_below hw6 _ _).trans (WrB.set w6 g p (fun p => p < n) hpn _)), ?_⟩
            have e1 : rowT Y C (i * C + j) = Y i j := by unfold rowT; rw [(row_div hlt2).1, (row_div hlt2).2]
            rw [intoS_more HN.out.1.2.2.1 HN.out.1.2.2.2.2.1 hlt hlt2 HX.out.2.2.2, ← e1, ← HX.out.2.2.1]
            exact HX.out.2.1.put1 hw6 p v hpn hv
          case measure => first | (simp [intOf]; done) | (simp [intOf]; omega)
        · obtain rfl : j = C := by omega
          have HX := Lib.hid (And.intro hwr hxr)
          clear hwr hxr q1 q2
          go_wp2
          go_roundw
          case rel => exact ⟨i + 1, by omega, by go_num, HX.out.1, by rw [← intoS_row]; exact HX.out.2⟩
          case measure => first | (simp [intOf]; done) | (simp [intOf]; omega)
    · obtain rfl : i = R := by omega
      have k2 := cells_of (hwr.keep r2 n2.symm)
      have HX := Lib.hid (And.intro hwr hxr)
      clear hwr hxr
      go_wp2
      go_ret
      exact ⟨_, _, rfl, HO.out.1.wrote HX.out.1 (fun _ => by rw [← intoS_all]; exact HX.out.2), below_wr HO.out.2 HX.out.1 hgw⟩
end Go.Proofs.Ytapilgbbkbfcbaa
