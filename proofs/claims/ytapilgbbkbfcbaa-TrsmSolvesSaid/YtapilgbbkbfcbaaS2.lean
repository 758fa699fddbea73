/- Layer 9: solving a triangular system: what the code computes. -/
import Derived.Test.YtapilgbbkbfcbaaS1
import Derived.BigRegion
namespace Go.Proofs.Ytapilgbbkbfcbaa
open Go Go.RowKit

/-- A diagonal without a nought. -/
def DiagOK (w : World) (b o : Nat) (off rows ld : Int) : Prop := ∀ k : Nat, (k : Int) < rows → ∃ v, w.cell? ⟨b, o + (off + (k : Int) + (k : Int) * ld).toNat, none⟩ = some (.float .f64 v) ∧ feq v 0 = false

set_option maxRecDepth 100000
set_option maxHeartbeats 1000000 in
theorem zero_upper (kind : Int) (b o n c : Nat) (off rows cols ld : Int) (w : World) (hs : (n : Int) ≤ lim) (h1 : I64 off) (h2 : I64 rows) (h3 : I64 cols) (h4 : I64 ld) (hg : goodP n off rows cols ld) (hrc : rows ≤ cols)
    (hk : kind = 2 ∨ kind = 4) (hd : DiagOK w b o off rows ld) :
    Calls Try.prog 94 #[.int .i64 kind, .agg #[.slice (some ⟨b, o, none⟩) n c, .int .i64 off, .int .i64 rows, .int .i64 cols, .int .i64 ld]] w
      fun e w' => e = .returned (.bool false) ∧ Below w.heap.size w w' := by
  have hr := hg.1
  have hrl : rows ≤ 9223372036854775807 := h2.2
  have HG := Lib.hid hg
  have HD := Lib.hid hd
  have kk : (kind == 2) = true ∨ ((kind == 2) = false ∧ (kind == 4) = true) := by rcases hk with rfl | rfl <;> simp
  clear hg hd hk
  rcases kk with e1 | ⟨e1, e2⟩
  all_goals
    go_enter Try.func94, Try.ntmps94
    go_wp2
    refine gen_world (fun W hW => ?_)
    have hB : BL w W := by rw [hW]; exact (Below.refl _ _).alloc (Nat.le_refl _) _
    have hbx : W.heap[w.heap.size]? = some (.cells #[.slice (some ⟨b, o, none⟩) n c, .int .i64 off, .int .i64 rows, .int .i64 cols, .int .i64 ld] 24 (0, 0)) := by rw [hW]; exact new_row _ _
    clear hW
    go_loopw [8] (fun i wr => ∃ k : Nat, (k : Int) ≤ rows ∧ i = .int .i64 k ∧ BL W wr) (fun i _ => (rows - intOf i).toNat)
    case atStart => exact ⟨0, hr, rfl, BL.refl W⟩
    case round =>
      obtain ⟨k, hk, rfl, hwr⟩ := hrel
      by_cases hlt : (k : Int) < rows
      · obtain ⟨v, hv, hv0⟩ := HD.out k hlt
        have hv1 := hwr.cell (hB.cell hv)
        have hv2 : (FloatKind.f64.format.order v 0 == some Ordering.eq) = false := hv0
        have kb := cells_of (hwr.row hbx)
        have hlt2 : (k : Int) < cols := by omega
        go_wp2_with (go_at_call 48; refine (at_in _ _ _ _ _ _ _ _ _ _ _ _ hs h1 h2 h3 h4 HG.out (by omega) hlt (by omega) hlt2 hv1).mono ?_; rintro e w1 ⟨rfl, hb⟩)
        go_roundw
        case rel => exact ⟨k + 1, by omega, by go_num, hwr.call hb⟩
        case measure => simp [intOf]; omega
      · go_wp2
        go_ret
        exact ⟨rfl, hB.trans (Below.mono hwr hB.size)⟩
end Go.Proofs.Ytapilgbbkbfcbaa
