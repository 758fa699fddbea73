/- slices.Backward over blocks: the iterator's contract. -/
import Derived.RangeFuncBox
import Derived.RangeFuncLeaves
import Derived.RangeFuncWrites
import Derived.Shelf.Abstract
import Derived.OwnWalkIn
import Derived.TacticsInMore
import Derived.LoopNIn
import Derived.LoopIn
import Derived.Test.YtapilgbbkbfcbaaR7
import Derived.Test.YtapilgbbkbfcbaaCin
namespace Go.Proofs.Ytapilgbbkbfcbaa
open Go Go.RowKit Go.Shelf
attribute [local go_sem] Oper.semAt_some

/-- What has come when k rounds are over: places from the last one back. -/
def back {m : Nat} (h : 0 < m) (k : Nat) : List {t : Nat // t < m} := (List.range k).map fun t => ⟨m - 1 - t, by omega⟩
theorem back_succ {m : Nat} (h : 0 < m) (k : Nat) : back h (k + 1) = back h k ++ [⟨m - 1 - k, by omega⟩] := by simp [back, List.range_succ]
theorem back_length {m : Nat} (h : 0 < m) (k : Nat) : (back h k).length = k := by simp [back]
def encB (it : Nat → Nat × Nat) {m : Nat} (x : {t : Nat // t < m}) : Array Value := #[.int .i64 (x.1 : Int), .agg #[.int .i64 ((it x.1).1 : Int), .int .i64 ((it x.1).2 : Int)]]
/-- What the iterator reads. -/
def KeepB (Bs g : Nat) (W W' : World) : Prop := W.heap.size ≤ W'.heap.size ∧ W'.heap[Bs]? = W.heap[Bs]? ∧ W'.heap[g]? = W.heap[g]?
theorem KeepB.trans {Bs g : Nat} {A B C : World} (h : KeepB Bs g A B) (k : KeepB Bs g B C) : KeepB Bs g A C := ⟨Nat.le_trans h.1 k.1, k.2.1.trans h.2.1, k.2.2.trans h.2.2⟩

set_option maxRecDepth 100000 in
set_option maxHeartbeats 2000000 in
theorem back1_in (F : Fence) (n : Nat) (hF : F.fn 64) (hro : F.round = none) (hn : 1 ≤ n) (l Bs g cap m : Nat) (it : Nat → Nat × Nat) (T Te : TypeId) (cur : Array Value) (hm : m ≤ 4096) (hm0 : 0 < m) (J Jx : List {t : Nat // t < m} → World → Prop)
    (hY : ∀ pre x W, J pre W → pre.length < m → YieldAt F (n - 1) Try.prog l (encB it x) W fun e W' =>
      (e = .returned (.bool true) ∧ J (pre ++ [x]) W' ∧ KeepB Bs g W W') ∨ (e = .returned (.bool false) ∧ Jx (pre ++ [x]) W'))
    (W : World) (hBs : W.heap[Bs]? = some (.cells #[.slice (some ⟨g, 0, none⟩) m cap] T (0, 0))) (hg : W.heap[g]? = some (.cells cur Te (0, 0)))
    (hc : ∀ t, t < m → cur[t * 2]? = some (.int .i64 ((it t).1 : Int)) ∧ cur[t * 2 + 1]? = some (.int .i64 ((it t).2 : Int))) (h0 : J [] W) :
    CallsIn F n Try.prog 64 #[.func (.yield l) #[] #[], .pointer (some ⟨Bs, 0, none⟩)] W fun e W' => (∃ v, e = .returned v) ∧
      ((∃ ys, ys = back hm0 m ∧ J ys W') ∨ (∃ pre, (∃ k, k ≤ m ∧ pre = back hm0 k) ∧ Jx pre W')) := by
  refine callsIn_of_wp Try.func64 rfl hF ?_ hro
  simp only [Try.ntmps64, List.size_toArray, List.length_cons, List.length_nil, Nat.reduceAdd, Nat.reduceSub, Array.replicate_succ, Array.replicate_zero, List.push_toArray, List.append_toArray, List.nil_append, List.cons_append]
  have kb := cells_of hBs
  gi_wp2
  clear kb
  gi_loopw [3] (fun i wr => ∃ k : Nat, k ≤ m ∧ i = .int .i64 ((m : Int) - 1 - k) ∧ J (back hm0 k) wr ∧ KeepB Bs g W wr) (fun i _ => (intOf i + 1).toNat)
  case atStart => exact ⟨0, Nat.zero_le _, by simp, h0, ⟨Nat.le_refl _, rfl, rfl⟩⟩
  case round =>
    obtain ⟨k, hk, rfl, hJs, hkp⟩ := hrel
    by_cases hlt : k < m
    · have kb := cells_of (hkp.2.1.trans hBs)
      have kg := cells_of (hkp.2.2.trans hg)
      obtain ⟨t, ht⟩ : ∃ t : Nat, (m : Int) - 1 - k = t := ⟨m - 1 - k, by omega⟩
      obtain ⟨c1, c2⟩ := hc t (by omega)
      have c1' := (kg (t * 2)).trans c1
      have c2' := (kg (t * 2 + 1)).trans c2
      have htm : t < m := by omega
      have ht2 : m - 1 - k = t := by omega
      obtain ⟨fn, tmps, assign, body, hy, hR⟩ := hY _ ⟨t, htm⟩ wr hJs (by rw [back_length]; exact hlt)
      dsimp only [encB] at hy
      rw [ht]
      have HX := Lib.hid (And.intro hkp (And.intro ht ht2))
      clear kg c1 c2 hkp ht ht2
      gi_wp2
      refine hR.mono ?_
      rintro e W3 (⟨rfl, hJ3, hk3⟩ | ⟨rfl, hJx3⟩)
      · gi_wp2
        go_roundw
        case rel => exact ⟨k + 1, by omega, congrArg (Value.int .i64) (by have := HX.out.2.1; omega), by rw [back_succ]; simp only [HX.out.2.2]; exact hJ3, HX.out.1.trans hk3⟩
        case measure => first | (simp [intOf]; done) | (simp [intOf]; omega)
      · gi_wp2
        refine bodyPost_ret (results_none rfl _ _ _) rfl ?_
        exact ⟨⟨_, rfl⟩, .inr ⟨_, ⟨k + 1, by omega, by rw [back_succ]; simp only [HX.out.2.2]⟩, hJx3⟩⟩
    · obtain rfl : k = m := by omega
      rw [show (k : Int) - 1 - k = -1 by omega]
      gi_wp2
      go_end0
      exact ⟨⟨_, rfl⟩, .inl ⟨_, rfl, hJs⟩⟩

set_option maxHeartbeats 1000000 in
/-- slices.Backward(l): the slice is boxed; the function value captures the box. -/
theorem back_in (F : Fence) (n : Nat) (hF : F.fn 34) (hro : F.round = none) (a : Option Addr) (len cap : Nat) (w : World) :
    CallsIn F n Try.prog 34 #[.slice a len cap] w fun e w' => e = .returned (.func (.func 64) #[] #[.pointer (some ⟨w.heap.size, 0, none⟩)]) ∧ w' = w.alloc (.cells #[.slice a len cap] 61) := by
  refine callsIn_of_wp Try.func34 rfl hF ?_ hro
  simp only [Try.ntmps34, List.size_toArray, List.length_cons, List.length_nil, Nat.reduceAdd, Nat.reduceSub, Array.replicate_succ, Array.replicate_zero, List.push_toArray, List.append_toArray, List.nil_append, List.cons_append]
  gi_wp2
  go_ret
  exact ⟨rfl, rfl⟩

theorem back_stops (F : Fence) (n : Nat) (hF : F.fn 64) (hro : F.round = none) (hn : 1 ≤ n) (Bs g cap m : Nat) (it : Nat → Nat × Nat) (T Te : TypeId) (cur : Array Value) (hm : m ≤ 4096) (hm0 : 0 < m) (w : World)
    (hBs : w.heap[Bs]? = some (.cells #[.slice (some ⟨g, 0, none⟩) m cap] T (0, 0))) (hg : w.heap[g]? = some (.cells cur Te (0, 0)))
    (hc : ∀ t, t < m → cur[t * 2]? = some (.int .i64 ((it t).1 : Int)) ∧ cur[t * 2 + 1]? = some (.int .i64 ((it t).2 : Int))) :
    SeqStopsK F n Try.prog 64 #[.pointer (some ⟨Bs, 0, none⟩)] (encB it) (KeepB Bs g) (fun ys => ys = back hm0 m) (fun pre => ∃ k, k ≤ m ∧ pre = back hm0 k) m w := fun l J Jx W hW _ _ hY h0 =>
  back1_in F n hF hro hn l Bs g cap m it T Te cur hm hm0 J Jx hY W ((show BL w W from hW).row hBs) ((show BL w W from hW).row hg) hc h0
end Go.Proofs.Ytapilgbbkbfcbaa
