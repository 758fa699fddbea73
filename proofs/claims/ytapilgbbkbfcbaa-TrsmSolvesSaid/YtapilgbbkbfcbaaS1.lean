/- Layer 9: a triangular system's parts: what the code computes. -/
import Derived.Test.YtapilgbbkbfcbaaV5
namespace Go.Proofs.Ytapilgbbkbfcbaa
open Go Go.RowKit

theorem ret_int {k : IntKind} {a b : Int} (h : a = b) : Ending.returned (.int k a) = .returned (.int k b) := by rw [h]

set_option maxRecDepth 100000
set_option maxHeartbeats 1000000 in
theorem trsv_row (A : Option Addr) (n c : Nat) (off N inc : Int) (w : World) :
    Calls Try.prog 93 #[.agg #[.slice A n c, .int .i64 off, .int .i64 N, .int .i64 inc]] w
      fun e w' => e = .returned (.agg #[.slice A n c, .int .i64 off, .int .i64 1, .int .i64 N, .int .i64 inc]) ∧ Below w.heap.size w w' := by
  go_enter Try.func93, Try.ntmps93
  go_wp2
  exact bodyPost_ret (v := .agg #[.slice A n c, .int .i64 off, .int .i64 1, .int .i64 N, .int .i64 inc]) (by simp [results, Try.results93, go_sem]) rfl ⟨rfl, by repeat (first | exact Below.refl _ _ | refine Below.setCell ?_ (by first | (simp; done) | (simp; omega)) _ | refine Below.alloc ?_ (by first | (simp; done) | (simp; omega)) _)⟩

set_option maxHeartbeats 1000000 in
theorem trsv_square (kind : Int) (A : Option Addr) (n c : Nat) (off rows cols ld N : Int) (w : World) (hs : (n : Int) ≤ lim) (h1 : I64 off) (h2 : I64 rows) (h3 : I64 cols) (h4 : I64 ld) (hg : goodP n off rows cols ld)
    (k1 : 1 ≤ kind) (k2 : kind ≤ 4) (e1 : rows = cols) (e2 : rows = N) :
    Calls Try.prog 92 #[.int .i64 kind, .agg #[.slice A n c, .int .i64 off, .int .i64 rows, .int .i64 cols, .int .i64 ld], .int .i64 N] w
      fun e w' => e = .returned (.int .i64 0) ∧ Below w.heap.size w w' := by
  subst e2
  subst e1
  have HD := Lib.hid (decide_eq_true hg)
  clear hg
  go_enter Try.func92, Try.ntmps92
  go_wp2_with (go_at_call 50; refine (good_box _ _ _ _ _ _ _ _ hs h1 h2 h2 h4).mono ?_; rintro e w1 ⟨rfl, rfl⟩; rw [HD.out])
  go_ret
  exact ⟨rfl, by repeat (first | exact Below.refl _ _ | refine Below.alloc ?_ (by first | (simp; done) | (simp; omega)) _)⟩

set_option maxHeartbeats 1000000 in
theorem num_calls (c0 c1 c2 c3 c4 : Value) (b o n c : Nat) (off N inc i : Int) (w : World) (h0 : 0 ≤ off + i * inc) (h1 : off + i * inc < n) (h2 : 0 ≤ i * inc) (h3 : 0 ≤ off) (hn : (n : Int) ≤ lim) :
    Calls Try.prog 97 #[.agg #[c0, c1, c2, c3, c4, .slice (some ⟨b, o, none⟩) n c, .int .i64 off, .int .i64 N, .int .i64 inc], .int .i64 i] w
      fun e w' => e = .returned (.pointer (some ⟨b, o + (off + i * inc).toNat, none⟩)) ∧ Below w.heap.size w w' := by
  unfold lim at hn
  go_enter Try.func97, Try.ntmps97
  go_wp2
  go_ret
  exact ⟨rfl, (Below.refl _ _).alloc (Nat.le_refl _) _⟩

set_option maxHeartbeats 1000000 in
theorem sysat_calls (c5 c6 c7 c8 : Value) (b o n c : Nat) (off rows cols ld i j : Int) (v : Nat) (w : World) (hn : (n : Int) ≤ lim) (h0 : 0 ≤ off + i + j * ld) (h1 : off + i + j * ld < n) (h2 : 0 ≤ j * ld) (h3 : 0 ≤ off) (h4 : 0 ≤ i)
    (hv : w.cell? ⟨b, o + (off + i + j * ld).toNat, none⟩ = some (.float .f64 v)) :
    Calls Try.prog 96 #[.agg #[.slice (some ⟨b, o, none⟩) n c, .int .i64 off, .int .i64 rows, .int .i64 cols, .int .i64 ld, c5, c6, c7, c8], .int .i64 i, .int .i64 j] w
      fun e w' => e = .returned (.float .f64 v) ∧ Below w.heap.size w w' := by
  unfold lim at hn
  go_enter Try.func96, Try.ntmps96
  have hbl := World.block_lt_of_cell? w _ hv
  go_wp2
  go_ret
  exact ⟨rfl, (Below.refl _ _).alloc (Nat.le_refl _) _⟩

set_option maxHeartbeats 1000000 in
theorem less_calls (c0 c1 c2 c3 c4 : Value) (b o n c : Nat) (off N inc i k : Int) (by_ u v : Nat) (w : World) (hn : (n : Int) ≤ lim) (h3 : 0 ≤ off)
    (h0 : 0 ≤ off + i * inc) (h1 : off + i * inc < n) (h2 : 0 ≤ i * inc) (k0 : 0 ≤ off + k * inc) (k1 : off + k * inc < n) (k2 : 0 ≤ k * inc)
    (hu : w.cell? ⟨b, o + (off + i * inc).toNat, none⟩ = some (.float .f64 u)) (hv : w.cell? ⟨b, o + (off + k * inc).toNat, none⟩ = some (.float .f64 v)) (hf : w.frozen? ⟨b, o + (off + i * inc).toNat, none⟩ = false) :
    Calls Try.prog 95 #[.agg #[c0, c1, c2, c3, c4, .slice (some ⟨b, o, none⟩) n c, .int .i64 off, .int .i64 N, .int .i64 inc], .int .i64 i, .int .i64 k, .float .f64 by_] w
      fun e w' => e = .returned (.tuple #[]) ∧ ∃ r w1, Below w.heap.size w w1 ∧ w' = w1.setCell ⟨b, o + (off + i * inc).toNat, none⟩ (.float .f64 r) ∧ r < 18446744073709551616 ∧ cn r = fsub u (fmul by_ v) := by
  go_enter Try.func95, Try.ntmps95
  go_wp2
  refine gen_world (fun W hW => ?_)
  have hbx : W.heap[w.heap.size]? = some (.cells #[c0, c1, c2, c3, c4, .slice (some ⟨b, o, none⟩) n c, .int .i64 off, .int .i64 N, .int .i64 inc] 143 (0, 0)) := by rw [hW]; exact new_row _ _
  have hB : Below w.heap.size w W := by rw [hW]; exact (Below.refl _ _).alloc (Nat.le_refl _) _
  clear hW
  have hu' := (show BL w W from hB).cell hu
  have hv' := (show BL w W from hB).cell hv
  refine wp_region_calm_tail 13 (by kernel_rfl) (by kernel_rfl) (BL W) (fun _ _ _ => False) (BL.refl _).drew ?_
  simp only [List.take_succ_cons, List.take_zero, List.drop_succ_cons, List.drop_zero]
  repeat (first
    | (refine cmMove _ (by rfl) ?_; simp only [List.set_cons_succ, List.set_cons_zero])
    | (refine cmNil _ (by rfl) ?_; simp only [List.set_cons_succ, List.set_cons_zero])
    | (refine cmFmul _ _ (by rfl) (by rfl) (fun _ n h => h.drewN n) (fun r1 hr1 hc1 => ?_); simp only [List.set_cons_succ, List.set_cons_zero])
    | (refine cmFsub _ _ (by rfl) (by rfl) (fun _ n h => h.drewN n) (fun r2 hr2 hc2 => ?_); simp only [List.set_cons_succ, List.set_cons_zero])
    | (refine cwW (by rfl) (fun K hK w' hw => ?_); have kb := cells_of (hw.row hbx); have ku := hw.cell hu'; have kv := hw.cell hv'; go_step; refine hK _ _ hw ?_; clear hK kb ku kv hw w' K)
    | (refine cwF (fun F hF w' hw => ?_); go_simp; refine calm_call (by kernel_rfl) hw (num_calls _ _ _ _ _ _ _ _ _ _ _ _ _ _ (by assumption) (by assumption) (by assumption) (by assumption) (by assumption)) (hF _ ?_); clear hF hw w' F; simp only [put_lit, List.set_cons_succ, List.set_cons_zero]))
  refine wpCalm_nil (fun w1 hw1 => ?_)
  have hf1 : w1.frozen? ⟨b, o + (off + i * inc).toNat, none⟩ = false := by
    rw [hw1.frozen (a := ⟨b, o + (off + i * inc).toNat, none⟩) (World.block_lt_of_cell? _ _ hu'), hB.frozen (p := ⟨b, o + (off + i * inc).toNat, none⟩) (World.block_lt_of_cell? _ _ hu)]; exact hf
  have hc3 := hw1.cell hu'
  have HC := Lib.hid hc1
  have HC2 := Lib.hid hc2
  clear hc1 hc2
  go_wp2
  go_end0
  refine ⟨rfl, r2, w1, hB.trans (Below.mono hw1 hB.size), rfl, hr2, ?_⟩
  rw [HC2.out, ← HC.out, ← fsub_cn u r1, ← fsub_cn u (cn r1), cn_cn]

/-! ### Whether a diagonal has a nought that is divided by -/
set_option maxHeartbeats 1000000 in
theorem zero_lower (kind : Int) (A : Option Addr) (n c : Nat) (off rows cols ld : Int) (w : World) (hr : 0 ≤ rows) (hr' : I64 rows) (e1 : (kind == 2) = false) (e2 : (kind == 4) = false) :
    Calls Try.prog 94 #[.int .i64 kind, .agg #[.slice A n c, .int .i64 off, .int .i64 rows, .int .i64 cols, .int .i64 ld]] w
      fun e w' => e = .returned (.bool false) ∧ Below w.heap.size w w' := by
  unfold I64 at hr'
  go_enter Try.func94, Try.ntmps94
  go_wp2
  go_loop [8] (fun i => ∃ k : Nat, (k : Int) ≤ rows ∧ i = .int .i64 k) (fun i => (rows - intOf i).toNat)
  case atStart => exact ⟨0, hr, rfl⟩
  case round =>
    obtain ⟨k, hk, rfl⟩ := hrel
    go_wp2
    · go_round
      case rel => exact ⟨k + 1, by omega, by go_num⟩
      case measure => simp [intOf]; omega
    · go_ret
      exact ⟨rfl, by repeat (first | exact Below.refl _ _ | refine Below.alloc ?_ (by first | (simp; done) | (simp; omega)) _)⟩
end Go.Proofs.Ytapilgbbkbfcbaa
