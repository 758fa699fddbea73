/- Layer 14: blocks of a size: what the code computes. -/
import Derived.Test.YtapilgbbkbfcbaaB1
namespace Go.Proofs.Ytapilgbbkbfcbaa
open Go Go.RowKit

set_option maxRecDepth 100000
set_option maxHeartbeats 1000000 in
theorem cut_calls (n s m : Nat) (size : Int) (w : World) (hn : 1 ≤ n) (hn' : n ≤ 4096) (hs : 1 ≤ size) (hs9 : I64 size) (hsm : (s : Int) = min size n) (hm1 : 1 ≤ m) (hm : (m - 1) * s < n) (hm2 : n ≤ m * s) :
    Calls Try.prog 30 #[.int .i64 n, .int .i64 size] w
      fun e w' => ∃ v, e = .returned v ∧ w'.ownsRow w.heap.size 63 2 v m (flatB (blkL n s m m)) ∧ v ≠ .slice none 0 0 ∧ Below w.heap.size w w' := by
  go_enter Try.func30, Try.ntmps30
  go_wp2_with fail
  refine (blocks_calls n s m size w hn hn' hs hs9 hsm hm1 hm hm2).mono ?_
  rintro e w1 ⟨v, rfl, hown, hnn, hb⟩
  rcases hown.2 with ⟨rfl, h⟩ | ⟨g, cap, cur, rfl, hbg, hh, h1, h2, h3⟩
  · exact absurd h (by omega)
  · have HX := Lib.hid (And.intro hown hb)
    clear hown hb hnn h3
    have hm0 : (0 : Int) < m := by omega
    go_wp2
    go_ret
    exact ⟨_, rfl, HX.out.1, by simp, HX.out.2⟩
end Go.Proofs.Ytapilgbbkbfcbaa
