/- Reference 09: triangular systems: what is computed. -/
import Derived.Test.YtapilgbbkbfcbaaK3
namespace Go.Proofs.Ytapilgbbkbfcbaa
open Go Go.RowKit

/-- A row's number that is turned next. -/
theorem at_sub {u v y a b c : Nat} (hu : cn u = a) (hv : cn v = b) (hy : cn y = c) : fsub u (fmul v y) = fsub a (fmul b c) := by
  subst hu; subst hv; subst hy
  rw [fmul_cn, fsub_cn']
theorem at_div {u v a b : Nat} (hu : cn u = a) (hv : cn v = b) : fdiv u v = fdiv a b := by
  subst hu; subst hv
  rw [fdiv_cn]
/-- Rows ahead of i are solved, and of row i j numbers are taken away. -/
def lowS (M : Nat → Nat → Nat) (x : Nat → Nat) (i j : Nat) : Nat → Nat := fun k => if k < i then lowL M x k else if k = i then DD (M i) (lowL M x) j (x i) else x k
theorem lowS_none (M : Nat → Nat → Nat) (x : Nat → Nat) (k : Nat) : lowS M x 0 0 k = x k := by
  unfold lowS
  by_cases h : k = 0
  · subst h; simp [DD]
  · rw [if_neg (by omega), if_neg h]
theorem lowS_more (M : Nat → Nat → Nat) (x : Nat → Nat) (i j k : Nat) : lowS M x i (j + 1) k = upd (lowS M x i j) i (fsub (lowS M x i j i) (fmul (M i j) (lowL M x j))) k := by
  unfold lowS upd
  by_cases h : k = i
  · subst h; rw [if_neg (by omega), if_pos rfl, if_pos rfl, if_neg (by omega), if_pos rfl]; rfl
  · by_cases h2 : k < i
    · simp only [if_pos h2, if_neg h]
    · simp only [if_neg h2, if_neg h]
theorem lowS_row (M : Nat → Nat → Nat) (x : Nat → Nat) (i k : Nat) : lowS M x i i k = lowS M x (i + 1) 0 k := by
  unfold lowS
  by_cases h : k = i
  · subst h; rw [if_neg (by omega), if_pos rfl, if_pos (by omega), ← lowL_eq]
  · by_cases h2 : k < i
    · rw [if_pos h2, if_pos (by omega)]
    · rw [if_neg h2, if_neg h, if_neg (by omega)]
      by_cases h3 : k = i + 1
      · subst h3; rw [if_pos rfl]; rfl
      · rw [if_neg h3]
theorem lowS_all (M : Nat → Nat → Nat) (x : Nat → Nat) (N : Nat) {k : Nat} (hk : k < N) : lowS M x N 0 k = lowN M N N x k := by
  rw [low_get M N x N (Nat.le_refl _), if_pos hk, Nat.min_eq_right (by omega), ← lowL_eq]
  unfold lowS; rw [if_pos hk]

set_option maxRecDepth 100000
set_option maxHeartbeats 4000000 in
theorem solve9_low (b o nm cm N : Nat) (M : Nat → Nat → Nat) (A : Option Addr) (c : Nat) (x : Nat → Nat) (w : World) (hN : N ≤ 64) (hnm : N * N ≤ nm) (hnm4 : nm ≤ 4096) (hM : XAt w b o 0 1 (N * N) (rowT M N)) (hx : LAt w A N x) :
    Calls Try.prog 37 #[.int .i64 1, .agg #[.int .i64 N, .int .i64 N, .slice (some ⟨b, o, none⟩) nm cm], .slice A N c] w
      fun e w' => ∃ g c', e = .returned (.tuple #[.slice (some ⟨g, 0, none⟩) N c', .bool true]) ∧ OwnL w' w.heap.size g c' N (lowN M N N x) ∧ Below w.heap.size w w' := by
  have hlim : lim = 140737488355328 := lim_eq
  have HN := Lib.hid (And.intro hM hx)
  clear hM hx
  go_enter Try.func37, Try.ntmps37
  go_wp2_with (at_builtin; refine wlCopy (.tmp 21) (.tmp 22) w.heap.size (w.heap.size + 1) A N c x rfl (new_at _ _ (by simp)) (by omega) (by simp; omega) rfl (HN.out.2.later (((Below.refl _ _).alloc (Nat.le_refl _) _).alloc (by simp) _)) (by omega) (fun g c' w1 hO hgrow => ?_))
  have r1 := (hgrow.block w.heap.size (by simp; omega) (by simp)).trans ((Below.heap_alloc _ _ _ (by simp)).trans (new_row _ _))
  have hbel : Below w.heap.size w w1 := (((Below.refl _ _).alloc (Nat.le_refl _) _).alloc (by simp) _).grown hgrow (by simp; omega) (fun j hj => by cases hj; omega)
  obtain ⟨cur, hcur, _⟩ := hO.2.2.2.1
  have n1 : g ≠ w.heap.size := fun e => by rw [e, r1] at hcur; cases hcur
  have hgw := hO.1
  have HO := Lib.hid (And.intro hO hbel)
  clear hO hbel hgrow hcur
  go_wp2
  go_loopw [10] (fun iv wr => ∃ i : Nat, i ≤ N ∧ iv = .int .i64 i ∧ BL w1 wr) (fun iv _ => (N - intOf iv).toNat)
  case atStart => exact ⟨0, Nat.zero_le _, rfl, BL.refl _⟩
  case round =>
    obtain ⟨i, hi, rfl, hwr⟩ := hrel
    by_cases hlt : i < N
    · go_wp2
      go_roundw
      case rel => exact ⟨i + 1, by omega, by go_num, hwr⟩
      case measure => first | (simp [intOf]; done) | (simp [intOf]; omega)
    · obtain rfl : i = N := by omega
      have HW := Lib.hid hwr
      clear hwr
      go_wp2
      go_loopw [11] (fun iv wr => ∃ t : Nat, t ≤ i ∧ iv = .int .i64 t ∧ WrB w1 wr g (fun p => p < i) ∧ XAt wr g 0 0 1 i (lowS M x t 0)) (fun iv _ => (i - intOf iv).toNat)
      case atStart => exact ⟨0, Nat.zero_le _, rfl, WrB.of_below HW.out _ _, (HO.out.1.2.2.2.2.later HW.out).congr fun k _ => (lowS_none M x k).symm⟩
      case round =>
        obtain ⟨t, ht, rfl, hwr, hxr⟩ := hrel
        by_cases hlt1 : t < i
        · have HX0 := Lib.hid (And.intro hwr hxr)
          clear hwr hxr
          go_wp2
          go_loopw [12] (fun jv wr => ∃ j : Nat, j ≤ t ∧ jv = .int .i64 j ∧ WrB w1 wr g (fun p => p < i) ∧ XAt wr g 0 0 1 i (lowS M x t j)) (fun jv _ => (t - intOf jv).toNat)
          case atStart => exact ⟨0, Nat.zero_le _, rfl, HX0.out.1, HX0.out.2⟩
          case round =>
            obtain ⟨j, hj, rfl, hwr, hxr⟩ := hrel
            by_cases hlt2 : j < t
            · have q1 := hwr.keep r1 n1.symm
              obtain ⟨v, hv, cv, xv⟩ := HN.out.1.one (row_lt hlt1 (show j < i by omega))
              have hbl : b < w.heap.size := World.block_lt_of_cell? w _ cv
              have cv1 := hwr.cell ((show BL w w1 from HO.out.2).cell cv) (.inl (by omega))
              obtain ⟨u, hu, cu, xu⟩ := hxr.one hlt1
              obtain ⟨y, hy, cy, xy⟩ := hxr.one (show j < i by omega)
              have hfz : wr.frozen? ⟨g, 0 + t, none⟩ = false := by
                obtain ⟨u2, _, cu2, _⟩ := HO.out.1.2.2.2.2.one hlt1
                rw [hwr.frozen cu2]; exact HO.out.1.fz (fun _ => True) _ trivial
              rw [Nat.zero_add] at cu cy hfz
              have hp0 := row_lt hlt1 (show j < i by omega)
              have xv' : cn v = M t j := by rw [xv]; unfold rowT; rw [(row_div (show j < i by omega)).1, (row_div (show j < i by omega)).2]
              have xy' : cn y = lowL M x j := by rw [xy]; unfold lowS; rw [if_pos hlt2]
              have HX := Lib.hid (And.intro hwr (And.intro hxr (And.intro xu (And.intro xv' xy'))))
              clear hwr hxr xu xv xy xv' xy' cv
              go_wp2
              refine wp_region_calm_tail 15 (by kernel_rfl) (by kernel_rfl) (BL wr) (fun _ _ z => IsF (fsub u (fmul v y)) z) (BL.refl _).drew ?_
              simp only [List.take_succ_cons, List.take_zero, List.drop_succ_cons, List.drop_zero]
              repeat (first
                | (refine cmMove _ (by rfl) ?_; simp only [List.set_cons_succ, List.set_cons_zero])
                | (refine cwW (by rfl) (fun K hK w' hw => ?_); have k1 := cells_of (hw.row q1); have k2 := hw.cell cu; have k3 := hw.cell cy; go_step; refine hK _ _ hw ?_; clear hK k1 k2 k3 hw w' K)
                | (refine cwF (fun F hF w' hw => ?_); go_simp; with_reducible refine calm_call (by kernel_rfl) hw (mat_at b o nm cm i i t j i (t * i + j) v w' rfl rfl (by omega) (by omega) (hw.cell cv1)) (hF _ ?_); clear hF hw w' F; simp only [put_lit, List.set_cons_succ, List.set_cons_zero]))
              refine cwF (fun F hF w' hw => ?_); go_simp
              refine calm_callS (by kernel_rfl) hw (rsub_calls u v y w') (fun z hz => ?_)
              obtain ⟨r0, rfl, hr0, hcr0⟩ := hz
              refine hF _ ?_; clear hF hw w' F; simp only [put_lit, List.set_cons_succ, List.set_cons_zero]
              refine wpCalm_nil (fun w6 hw6 => ?_)
              have cu6 := hw6.cell cu
              have fz6 : w6.frozen? ⟨g, t, none⟩ = false := by rw [hw6.frozen (World.block_lt_of_cell? _ _ cu)]; exact hfz
              have e1 := hcr0.trans (at_sub HX.out.2.2.1 HX.out.2.2.2.1 HX.out.2.2.2.2)
              have HE := Lib.hid e1
              clear e1 hcr0
              go_wp2
              go_roundw
              case rel => exact ⟨j + 1, by omega, by go_num, HX.out.1.trans ((WrB.of_below hw6 _ _).trans (WrB.set w6 g t (fun p => p < i) hlt1 _)), (HX.out.2.1.put1 hw6 t r0 hlt1 hr0).congr fun k _ => by rw [HE.out, lowS_more]⟩
              case measure => first | (simp [intOf]; done) | (simp [intOf]; omega)
            · obtain rfl : j = t := by omega
              have HX := Lib.hid (And.intro hwr hxr)
              clear hwr hxr
              go_wp2
              go_roundw
              case rel => exact ⟨j + 1, by omega, by go_num, HX.out.1, HX.out.2.congr fun k _ => lowS_row M x j k⟩
              case measure => first | (simp [intOf]; done) | (simp [intOf]; omega)
        · obtain rfl : t = i := by omega
          have HX := Lib.hid (And.intro hwr hxr)
          clear hwr hxr
          go_wp2
          go_ret2
          exact ⟨_, _, rfl, HO.out.1.wrote HX.out.1 (fun _ => HX.out.2.congr fun k hk => lowS_all M x t hk), below_wr HO.out.2 HX.out.1 hgw⟩
end Go.Proofs.Ytapilgbbkbfcbaa
