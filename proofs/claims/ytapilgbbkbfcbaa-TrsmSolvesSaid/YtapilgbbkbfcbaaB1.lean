/- Layer 12: blocks: where a number is cut: what the code computes. -/
import Derived.Test.YtapilgbbkbfcbaaB0
import Derived.Test.YtapilgbbkbfcbaaShelf
import Derived.Sort.OwnSortedInts
import Derived.Sort.Grow
import Derived.Lib.OwnBridge
import Derived.Deep.RegionLaw
namespace Go.Proofs.Ytapilgbbkbfcbaa
open Go Go.RowKit

/-- append to what the call owns, as one step of a region that draws. -/
theorem step_append_own {P : Program} {ops : Array Oper} {o : Oper} {a : Act} {w : World} {K : Act → World → Prop} {Q : Exit → Act → World → Prop} {E : Prop}
    (hg : o.guard = none) (s x : Operand) (t : TypeId) (ho : o.op = Op.call { callee := Callee.builtin Builtin.append, args := #[s, x], argTypes := #[t, t] })
    (base : Nat) (e : TypeId) (i : TypeInfo) (z : Value) (size bytes : Nat) (ht : P.underlying t = some (.slice e)) (hi : P.info? e = some i) (hz : i.zero = some z)
    (hsize : i.size = size) (hby : i.bytes = bytes) (hzs : z.cells.size = size) (hsz : 0 < size)
    (v : Value) (n : Nat) (xs : List Value) (hs : a.eval s = v) (hown : w.ownsRow base e size v n xs)
    (ad : Addr) (m c : Nat) (news : List Value) (hx : a.eval x = .slice (some ad) m c) (hl : news.length = m * size) (hnews : ∀ j u, news[j]? = some u → w.cell? (ad.add j) = some u) (h1 : ∀ u ∈ news, u.oneCell' = true)
    (h63 : n + m ≤ maxLen) (hbytes : (n + m) * bytes ≤ 140737488355328) (hbase : base ≤ w.heap.size)
    (h : ∀ v' w', w'.ownsRow base e size v' (n + m) (xs ++ news) → w.grownBy w' v.ownBlock → (v' = .slice none 0 0 ↔ v = .slice none 0 0 ∧ m = 0) → K (a.put o.dst v') w') :
    if Region.wanted o (yielded ops a.tmps) = true then Oper.wp P o a w K Q else E := by
  have hw : Region.wanted o (yielded ops a.tmps) = true := by simp [Region.wanted, hg]
  rw [if_pos hw]
  exact wp_append_own w s x t ho base e i z size bytes ht hi hz hsize hby hzs hsz v n xs hs hown ad m c news hx hl hnews h1 h63 hbytes hbase h
theorem own_below {w0 wr w1 : World} {o : Obj} {v : Value} {e : TypeId} {size n : Nat} {xs : List Value} (hown : wr.ownsRow w0.heap.size e size v n xs) (hg : (wr.alloc o).drew.grownBy w1 v.ownBlock) (hb : Below w0.heap.size w0 wr) : Below w0.heap.size w0 w1 := by
  have h1 : Below w0.heap.size w0 (wr.alloc o).drew := (hb.alloc hb.size _).drew
  refine h1.grown hg h1.size (fun j hj => ?_)
  rcases hown.2 with ⟨rfl, _⟩ | ⟨g, cap, cur, rfl, hbg, _⟩
  · cases hj
  · cases hj; exact hbg
theorem own_some {w : World} {v : Value} {B : Nat} {e : TypeId} {size n : Nat} {xs : List Value} (hown : w.ownsRow B e size v n xs) (hn : n ≠ 0) : v ≠ .slice none 0 0 := by
  rcases hown.2 with ⟨rfl, h⟩ | ⟨g, cap, cur, rfl, hbg, _⟩
  · exact absurd h hn
  · simp
theorem own_base {w : World} {v : Value} {B B' : Nat} {e : TypeId} {size n : Nat} {xs : List Value} (hown : w.ownsRow B e size v n xs) (hB : B' ≤ B) : w.ownsRow B' e size v n xs :=
  ⟨hown.1, hown.2.imp id fun ⟨g, cap, cur, h1, h2, h3⟩ => ⟨g, cap, cur, h1, Nat.le_trans hB h2, h3⟩⟩
theorem info3 : (Try.prog.info? 3).map (fun i => (i.zero, i.size, i.bytes)) = some (some (.int .i64 0), 1, 8) := by kernel_rfl

theorem info63 : (Try.prog.info? 63).map (fun i => (i.zero, i.size, i.bytes)) = some (some (.agg #[.int .i64 0, .int .i64 0]), 2, 16) := by kernel_rfl

set_option maxRecDepth 100000
set_option maxHeartbeats 2000000 in
theorem blocks_calls (n s m : Nat) (size : Int) (w : World) (hn : 1 ≤ n) (hn' : n ≤ 4096) (hs : 1 ≤ size) (hs9 : I64 size) (hsm : (s : Int) = min size n) (hm1 : 1 ≤ m) (hm : (m - 1) * s < n) (hm2 : n ≤ m * s) :
    Calls Try.prog 56 #[.int .i64 n, .int .i64 size, .slice none 0 0] w
      fun e w' => ∃ v, e = .returned v ∧ w'.ownsRow w.heap.size 63 2 v m (flatB (blkL n s m m)) ∧ v ≠ .slice none 0 0 ∧ Below w.heap.size w w' := by
  obtain ⟨i1, ji, jz0, jz1, jz2⟩ := info_parts info63
  obtain ⟨i0, hi, hz0, hz1, hz2⟩ := info_parts info3
  have hs1 : 1 ≤ s := by omega
  have hsn : s ≤ n := by omega
  have hs9' := hs9.2
  go_enter Try.func56, Try.ntmps56
  go_wp2
  refine gen_world (fun W hW => ?_)
  have hB : BL w W := by rw [hW]; exact (Below.refl _ _).alloc (Nat.le_refl _) _
  have hbx : W.heap[w.heap.size]? = some (.cells #[.int .i64 n] 3 (0, 0)) := by rw [hW]; exact new_row _ _
  clear hW
  have hown0 : W.ownsRow w.heap.size 3 1 (.slice (some ⟨w.heap.size, 0, none⟩) 1 1) (0 + 1) ((((n : Int) :: pts s 0)).map (Value.int .i64)) :=
    ⟨by simp [pts], .inr ⟨w.heap.size, 1, _, rfl, Nat.le_refl _, hbx, by omega, by unfold maxLen; omega, rfl, by simp [pts]⟩⟩
  clear hbx
  go_loopw [7, 8] (fun v a wr => ∃ k : Nat, k ≤ m ∧ a = .int .i64 ((k * s : Nat) : Int) ∧ wr.ownsRow w.heap.size 3 1 v (k + 1) (((n : Int) :: pts s k).map (Value.int .i64)) ∧ v ≠ .slice none 0 0 ∧ Below w.heap.size w wr) (fun _ a _ => (n - intOf a).toNat)
  case atStart => exact ⟨0, Nat.zero_le _, by simp, hown0, by simp, hB⟩
  case round =>
    obtain ⟨k, hk, rfl, hown, hnn, hbel⟩ := hrel
    by_cases hlt : k * s < n
    · have hlt2 : ((k * s : Nat) : Int) < n := by omega
      have hkm : k < m := by
        rcases Nat.lt_or_ge k m with h | h
        · exact h
        · exact absurd (Nat.le_trans hm2 (Nat.mul_le_mul_right s h)) (by omega)
      have hkn : k < 4096 := Nat.lt_of_lt_of_le (Nat.lt_of_le_of_lt (Nat.le_mul_of_pos_right k hs1) hlt) hn'
      obtain ⟨p, hp⟩ : ∃ p : Int, p = ((k * s : Nat) : Int) := ⟨_, rfl⟩
      rw [← hp] at hlt2 ⊢
      have hp0 : 0 ≤ p := by omega
      have hpn : p ≤ 4096 := by omega
      have HP := Lib.hid hp
      clear hp hlt
      go_wp2_with (at_builtin; refine wpList_append_own _ rfl (.tmp 34) (.tmp 36) 46 rfl w.heap.size 3 i0 (.int .i64 0) 1 8 Try.underlying46 hi hz0 hz1 hz2 rfl (by decide) _ _ _ rfl (hown.alloc _) ⟨wr.heap.size, 0, none⟩ 1 1 [.int .i64 p] rfl rfl ?c1 ?c2 ?c3 ?c4 ?c5 ?_)
      case c1 =>
        intro j u hj
        match j, hj with
        | 0, hj => simp at hj; subst hj; simp [Addr.add]
      case c2 => intro u hu; simp at hu; subst hu; rfl
      case c3 => unfold maxLen; omega
      case c4 => omega
      case c5 => have := hbel.size; simp; omega
      intro v' w1 hown' hgrow hnil
      have hbel' : Below w.heap.size w w1 := (hbel.alloc hbel.size _).grown hgrow (by have := hbel.size; simp; omega) (fun j hj => by
        rcases hown.2 with ⟨rfl, _⟩ | ⟨g, cap, cur, rfl, hb, _⟩
        · cases hj
        · cases hj; exact hb)
      have hnn' : v' ≠ .slice none 0 0 := fun h => hnil h
      clear hgrow hnil hown hnn hbel
      go_wp2
      go_roundw
      case rel =>
        refine ⟨k + 1, by omega, ?_, ?_, hnn', hbel'⟩
        · rw [HP.out, Nat.succ_mul]; congr 1; omega
        · rw [pts_more, ← HP.out]; simpa using hown'
      case measure => first | (simp [intOf]; done) | (simp [intOf]; omega)
    · have hkm : k = m := by
        rcases Nat.lt_or_ge k m with h | h
        · exact absurd (Nat.lt_of_le_of_lt (Nat.mul_le_mul_right s (show k ≤ m - 1 by omega)) hm) hlt
        · omega
      subst hkm
      have hlt2 : ¬ ((k * s : Nat) : Int) < n := by omega
      obtain ⟨p, hp⟩ : ∃ p : Int, p = ((k * s : Nat) : Int) := ⟨_, rfl⟩
      rw [← hp] at hlt2 ⊢
      clear hp hlt
      obtain ⟨g, cap, rfl, hbg, hgl, hncap, hcm, hlen, hH⟩ := Lib.holds_of_ownsRow hown hnn
      go_wp2
      go_loopw [7, 40] (fun v j w2 => v = .slice (some ⟨g, 0, none⟩) (k + 1) cap ∧ j = .int .i64 0 ∧ w2 = wr) (fun _ _ _ => 0)
      case atStart => exact ⟨rfl, rfl, rfl⟩
      case round =>
        obtain ⟨rfl, rfl, rfl⟩ := hrel
        have hk4 : k ≤ 4097 := by
          have : k - 1 < n := Nat.lt_of_le_of_lt (Nat.le_mul_of_pos_right (k - 1) hs1) hm
          omega
        have hsort := Try.slices_Sort_int g 0 cap _ wr hH hgl (by rw [hlen]; omega)
        rw [hlen] at hsort
        obtain ⟨zs, hzs⟩ : ∃ zs, zs = ((n : Int) :: pts s k) := ⟨_, rfl⟩
        rw [← hzs] at hsort
        have X := Lib.hid (And.intro hown (And.intro hbel (And.intro hlen (And.intro hH hzs))))
        clear hown hbel hlen hH hnn hzs
        go_wp2_with (go_at_call 88; refine hsort.mono ?_; rintro e w2 ⟨rfl, nn, os, rfl⟩)
        refine gen_call (fun W2 hW2 => ?_)
        have hsc : (zs.mergeSort fun x y => decide (x ≤ y)) = cutsL n s k := by rw [X.out.2.2.2.2]; exact sort_cuts hs1 hm
        have hlc : (cutsL n s k).length = k + 1 := by simp [cutsL, pts_len]
        have hbel2 : Below w.heap.size w W2 := by
          rw [hW2]; exact X.out.2.1.grown (grownBy_sortedI _) X.out.2.1.size (fun j hj => by cases hj; exact hbg)
        have hown2 : W2.ownsRow w.heap.size 3 1 (.slice (some ⟨g, 0, none⟩) (k + 1) cap) (k + 1) ((cutsL n s k).map (Value.int .i64)) := by
          rcases X.out.1.2 with ⟨h0, _⟩ | ⟨g', cap', cur, hv, hbase, hb, h1, h2, h3, h4⟩
          · cases h0
          · cases hv
            rw [hW2, hsc]
            have := ownsRow_sortedI (n := nn) (os := os) (ts := cutsL n s k) (ss := cutsL n s k) rfl hbase hb (by rw [hlc]; exact h1) h2 h3
            rw [hlc] at this
            exact this
        clear hW2 hsc
        obtain ⟨g2, cap2, hv2, _, _, _, hcm2, _, hH2⟩ := Lib.holds_of_ownsRow hown2 (by simp)
        cases hv2
        have hcomp := Try.slices_Compact_int g 0 cap (cutsL n s k) W2 hH2 (by omega) (by omega)
        rw [hlc, compact_inc _ (cutsL_inc hs1 hm), hlc] at hcomp
        refine hcomp.mono ?_
        rintro e w3 ⟨rfl, q, hw3⟩
        have hown3 := Lib.ownsRow_putRow (q := q) (k := k + 1) (ys := cutsL n s k ++ List.replicate (k + 1 - (k + 1)) 0) hown2 (by simp [hlc]) (Nat.le_refl _)
        have hbel3 : Below w.heap.size w w3 := by rw [hw3]; exact Lib.below_putRow hbel2 hbg
        rw [← hw3] at hown3
        rw [List.take_of_length_le (by simp [hlc]), Nat.sub_self, List.replicate_zero, List.append_nil] at hown3
        have HO := Lib.hid (And.intro hown3 hbel3)
        clear hw3 hown3 hbel3 hown2 hbel2 hH2 hcomp hsort X
        have hz3 : g < w3.heap.size := by
          obtain ⟨g2, cap2, hv2, _, hgl2, _, _, _, _⟩ := Lib.holds_of_ownsRow HO.out.1 (by simp)
          cases hv2; exact hgl2
        have hcell : ∀ i, i ≤ k → w3.cell? ⟨g, i, none⟩ = some (.int .i64 ((cutAt n s k i : Nat) : Int)) := fun i hi => by
          have := HO.out.1.cellAt i (by omega)
          rw [this, List.getElem?_map, cutsL_get hi]; rfl
        have HC := Lib.hid hcell
        clear hcell
        go_wp2
        go_loopw [11, 63] (fun v a wr => ∃ i : Nat, i ≤ k ∧ a = .int .i64 i ∧ wr.ownsRow w3.heap.size 63 2 v i (flatB (blkL n s k i)) ∧ (v = .slice none 0 0 → i = 0) ∧ Below w3.heap.size w3 wr) (fun _ a _ => (k - intOf a).toNat)
        case atStart => exact ⟨0, Nat.zero_le _, rfl, World.ownsRow_nil _ _ _ _, fun _ => rfl, Below.refl _ _⟩
        case round =>
          obtain ⟨i, hik, rfl, hown, hnn, hbel⟩ := hrel
          by_cases hlt : i < k
          · have hlt2 : (i : Int) < k := by omega
            have hc0 : BL w3 wr := hbel
            have h1 := hc0.cell (HC.out i (by omega))
            have h2 := hc0.cell (HC.out (i + 1) (by omega))
            have h2' : wr.cell? ⟨g, 1 + i, none⟩ = some (.int .i64 ((cutAt n s k (i + 1) : Nat) : Int)) := by rw [Nat.add_comm]; exact h2
            have l1 := cutAt_lt hs1 hm hlt
            have l2 := cutAt_le (n := n) (s := s) (k := k) (i := i + 1) hm
            obtain ⟨pa, hpa⟩ : ∃ pa, pa = cutAt n s k i := ⟨_, rfl⟩
            obtain ⟨pb, hpb⟩ : ∃ pb, pb = cutAt n s k (i + 1) := ⟨_, rfl⟩
            rw [← hpa] at h1 l1
            rw [← hpb] at h2 h2' l1 l2
            have HP := Lib.hid (And.intro hpa hpb)
            have HX := Lib.hid (And.intro hown (And.intro hnn hbel))
            clear hpa hpb hown hnn hbel
            go_wp2
            have hgz : g < wr.heap.size := by have := hc0.size; omega
            have g1 : ¬ (((k : Int) + 1) ≤ (i : Int)) := by omega
            have g2 : (i : Int) < (k : Int) + 1 := by omega
            have g3 : ¬ ((i : Int) < 0) := by omega
            have w1' : (pb : Int) - pa = ((pb - pa : Nat) : Int) := by omega
            have hown1 := HX.out.1
            have g4 : IntKind.i64.wrap ((pb - pa : Nat) : Int) = ((pb - pa : Nat) : Int) := by rw [IntKind.wrap_i64]; omega
            go_region_law (refine step_append_own rfl (.tmp 68) (.tmp 80) 61 rfl w3.heap.size 63 i1 (.agg #[.int .i64 0, .int .i64 0]) 2 16 Try.underlying61 ji jz0 jz1 jz2 rfl (by decide) _ i _ rfl (hown1.alloc _) ⟨wr.heap.size, 0, none⟩ 1 1 [.int .i64 pa, .int .i64 ((pb - pa : Nat) : Int)] rfl rfl (by intro j u hj; rcases j with _ | _ | j <;> simp at hj <;> subst hj <;> simp [Addr.add]) (by intro u hu; simp at hu; rcases hu with rfl | rfl <;> rfl) (by unfold maxLen; omega) (by omega) (by have := hc0.size; simp; omega) ?_; intro v' w1 hown' hgrow hnil)
            all_goals
              have hb4 := own_below hown1 hgrow HX.out.2.2
              clear hgrow hnil
              go_wp2
              go_roundw
              case rel =>
                refine ⟨i + 1, by omega, by go_num, ?_, fun h => absurd h (own_some hown' (by omega)), hb4⟩
                rw [blkL_more, flatB_append, ← HP.out.1, ← HP.out.2]
                exact hown'
              case measure => first | (simp [intOf]; done) | (simp [intOf]; omega)
          · have hik2 : i = k := by omega
            subst hik2
            have HX := Lib.hid (And.intro hown (And.intro hnn hbel))
            clear hown hnn hbel
            go_wp2
            go_ret
            exact ⟨_, rfl, own_base HX.out.1 HO.out.2.size, own_some HX.out.1 (by omega), HO.out.2.trans (HX.out.2.2.mono HO.out.2.size)⟩
end Go.Proofs.Ytapilgbbkbfcbaa
