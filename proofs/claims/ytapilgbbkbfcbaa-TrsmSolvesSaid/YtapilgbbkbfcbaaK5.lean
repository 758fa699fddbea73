/- Reference 09: triangular systems, upper: what is computed. -/
import Derived.Test.YtapilgbbkbfcbaaK4
namespace Go.Proofs.Ytapilgbbkbfcbaa
open Go Go.RowKit

/-- One of two lists. -/
def pickB (r : Bool) (a b : Nat → Nat) : Nat → Nat := match r with | true => a | false => b
/-- Of the last rows t are solved, and of the one ahead of them j numbers are taken away. -/
def upS (M : Nat → Nat → Nat) (N : Nat) (x : Nat → Nat) (t j : Nat) : Nat → Nat := fun k => if N - t ≤ k then upL M N x (N - 1 - k) else if k = N - 1 - t then DD (fun i => M (N - 1 - t) (N - 1 - i)) (upL M N x) j (x k) else x k
theorem upS_none (M : Nat → Nat → Nat) (N : Nat) (x : Nat → Nat) {k : Nat} (hk : k < N) : upS M N x 0 0 k = x k := by
  unfold upS
  rw [if_neg (by omega)]
  by_cases h : k = N - 1 - 0
  · rw [if_pos h]; rfl
  · rw [if_neg h]
theorem upS_more (M : Nat → Nat → Nat) (N : Nat) (x : Nat → Nat) {t : Nat} (ht : t < N) (j k : Nat) : upS M N x t (j + 1) k = upd (upS M N x t j) (N - 1 - t) (fsub (upS M N x t j (N - 1 - t)) (fmul (M (N - 1 - t) (N - 1 - j)) (upL M N x j))) k := by
  unfold upS upd
  by_cases h : k = N - 1 - t
  · subst h; rw [if_neg (by omega), if_pos rfl, if_pos rfl, if_neg (by omega), if_pos rfl]; rfl
  · by_cases h2 : N - t ≤ k
    · simp only [if_pos h2, if_neg h]
    · simp only [if_neg h2, if_neg h]
theorem upS_row (M : Nat → Nat → Nat) (N : Nat) (x : Nat → Nat) {t : Nat} (ht : t < N) (k : Nat) : upd (upS M N x t t) (N - 1 - t) (fdiv (upS M N x t t (N - 1 - t)) (M (N - 1 - t) (N - 1 - t))) k = upS M N x (t + 1) 0 k := by
  unfold upS upd
  by_cases h : k = N - 1 - t
  · subst h; rw [if_pos rfl, if_neg (by omega), if_pos rfl, if_pos (by omega), show N - 1 - (N - 1 - t) = t by omega, upL_eq]
  · by_cases h2 : N - t ≤ k
    · rw [if_neg h]; simp only; rw [if_pos h2, if_pos (by omega)]
    · rw [if_neg h]; simp only; rw [if_neg h2, if_neg h, if_neg (by omega)]
      by_cases h3 : k = N - 1 - (t + 1)
      · rw [if_pos h3]; rfl
      · rw [if_neg h3]
theorem upS_all (M : Nat → Nat → Nat) (N : Nat) (x : Nat → Nat) {k : Nat} (hk : k < N) : upS M N x N 0 k = upN M N N x k := by
  rw [up_get M N x N (Nat.le_refl _), if_neg (by omega), if_pos (by omega)]
  unfold upS; rw [if_pos (by omega)]

set_option maxRecDepth 100000
set_option maxHeartbeats 4000000 in
theorem solve9_up (b o nm cm N : Nat) (M : Nat → Nat → Nat) (A : Option Addr) (c : Nat) (x : Nat → Nat) (w : World) (hN : N ≤ 64) (hnm : N * N ≤ nm) (hnm4 : nm ≤ 4096) (hM : XAt w b o 0 1 (N * N) (rowT M N)) (hx : LAt w A N x) (r : Bool) (hr : r = true ↔ ¬ zeroDiag M N) :
    Calls Try.prog 37 #[.int .i64 2, .agg #[.int .i64 N, .int .i64 N, .slice (some ⟨b, o, none⟩) nm cm], .slice A N c] w
      fun e w' => ∃ g c', e = .returned (.tuple #[.slice (some ⟨g, 0, none⟩) N c', .bool r]) ∧ OwnL w' w.heap.size g c' N (pickB r (upN M N N x) x) ∧ Below w.heap.size w w' := by
  have hlim : lim = 140737488355328 := lim_eq
  have HN := Lib.hid (And.intro hM (And.intro hx hr))
  clear hM hx hr
  go_enter Try.func37, Try.ntmps37
  go_wp2_with (at_builtin; refine wlCopy (.tmp 21) (.tmp 22) w.heap.size (w.heap.size + 1) A N c x rfl (new_at _ _ (by simp)) (by omega) (by simp; omega) rfl (HN.out.2.1.later (((Below.refl _ _).alloc (Nat.le_refl _) _).alloc (by simp) _)) (by omega) (fun g c' w1 hO hgrow => ?_))
  have r1 := (hgrow.block w.heap.size (by simp; omega) (by simp)).trans ((Below.heap_alloc _ _ _ (by simp)).trans (new_row _ _))
  have hbel : Below w.heap.size w w1 := (((Below.refl _ _).alloc (Nat.le_refl _) _).alloc (by simp) _).grown hgrow (by simp; omega) (fun j hj => by cases hj; omega)
  obtain ⟨cur, hcur, _⟩ := hO.2.2.2.1
  have n1 : g ≠ w.heap.size := fun e => by rw [e, r1] at hcur; cases hcur
  have hgw := hO.1
  have HO := Lib.hid (And.intro hO hbel)
  clear hO hbel hgrow hcur
  go_wp2
  go_loopw [10] (fun iv wr => ∃ i : Nat, i ≤ N ∧ iv = .int .i64 i ∧ BL w1 wr ∧ ∀ k, k < i → feq (M k k) 0 = false) (fun iv _ => (N - intOf iv).toNat)
  case atStart => exact ⟨0, Nat.zero_le _, rfl, BL.refl _, fun k h => absurd h (by omega)⟩
  case round =>
    obtain ⟨i, hi, rfl, hwr, hz⟩ := hrel
    by_cases hlt : i < N
    · obtain ⟨v, hv, cv, xv⟩ := HN.out.1.one (row_lt hlt hlt)
      have cv1 := hwr.cell ((show BL w w1 from HO.out.2).cell cv)
      have k1 := cells_of (hwr.row r1)
      have hp0 := row_lt hlt hlt
      have xv' : cn v = M i i := by rw [xv]; unfold rowT; rw [(row_div hlt).1, (row_div hlt).2]
      have HX := Lib.hid (And.intro hwr (And.intro hz xv'))
      clear hwr hz xv xv' cv
      by_cases hv0 : feq v 0 = true
      · have hv2 : (FloatKind.f64.format.order v 0 == some Ordering.eq) = true := hv0
        have R1 := Lib.hid (show r = false by rw [← Bool.not_eq_true]; exact fun h => HN.out.2.2.1 h ⟨i, hlt, by rw [← HX.out.2.2, show (0 : Nat) = cn 0 by decide, feq_cn]; exact hv0⟩)
        clear hv0
        go_wp2_with fail
        refine (mat_at b o nm cm N N i i N (i * N + i) v _ rfl rfl (by omega) (by omega) cv1).mono ?_
        rintro e w2 ⟨rfl, hb2⟩
        clear k1
        go_wp2
        go_ret2
        exact ⟨_, _, by rw [R1.out]; rfl, by rw [R1.out]; exact HO.out.1.later (HX.out.1.call hb2), BL.call HO.out.2 (HX.out.1.call hb2)⟩
      · have hv1 : feq v 0 = false := by simpa using hv0
        have hv2 : (FloatKind.f64.format.order v 0 == some Ordering.eq) = false := hv1
        have HV := Lib.hid hv1
        clear hv1 hv0
        go_wp2_with fail
        refine (mat_at b o nm cm N N i i N (i * N + i) v _ rfl rfl (by omega) (by omega) cv1).mono ?_
        rintro e w2 ⟨rfl, hb2⟩
        clear k1
        go_wp2
        go_roundw
        case rel =>
          refine ⟨i + 1, by omega, by go_num, HX.out.1.call hb2, fun k hk => ?_⟩
          by_cases hki : k = i
          · subst hki; rw [← HX.out.2.2, show (0 : Nat) = cn 0 by decide, feq_cn]; exact HV.out
          · exact HX.out.2.1 k (by omega)
        case measure => first | (simp [intOf]; done) | (simp [intOf]; omega)
    · obtain rfl : i = N := by omega
      have R1 := Lib.hid (show r = true from HN.out.2.2.2 fun ⟨k, hk, h⟩ => by rw [hz k hk] at h; cases h)
      have HW := Lib.hid hwr
      clear hwr hz
      go_wp2
      go_loopw [13] (fun iv wr => ∃ t : Nat, t ≤ i ∧ iv = .int .i64 ((i : Int) - 1 - t) ∧ WrB w1 wr g (fun p => p < i) ∧ XAt wr g 0 0 1 i (upS M i x t 0)) (fun iv _ => (intOf iv + 1).toNat)
      case atStart => exact ⟨0, Nat.zero_le _, by first | go_num | (simp; omega), WrB.of_below HW.out _ _, (HO.out.1.2.2.2.2.later HW.out).congr fun k hk => (upS_none M i x hk).symm⟩
      case round =>
        obtain ⟨t, ht, rfl, hwr, hxr⟩ := hrel
        by_cases hlt1 : t < i
        · obtain ⟨q, hq⟩ : ∃ q : Nat, q = i - 1 - t := ⟨_, rfl⟩
          have eqI : (i : Int) - 1 - t = q := by omega
          rw [eqI]
          have hqi : q < i := by omega
          have HX0 := Lib.hid (And.intro hwr (And.intro hxr hq))
          clear hwr hxr hq eqI
          go_wp2
          go_loopw [14] (fun jv wr => ∃ j : Nat, j ≤ t ∧ jv = .int .i64 ((i : Int) - 1 - j) ∧ WrB w1 wr g (fun p => p < i) ∧ XAt wr g 0 0 1 i (upS M i x t j)) (fun jv _ => (intOf jv + 1).toNat)
          case atStart => exact ⟨0, Nat.zero_le _, by first | go_num | (simp; omega), HX0.out.1, HX0.out.2.1⟩
          case round =>
            obtain ⟨j, hj, rfl, hwr, hxr⟩ := hrel
            by_cases hlt2 : j < t
            · obtain ⟨p, hp⟩ : ∃ p : Nat, p = i - 1 - j := ⟨_, rfl⟩
              have eqJ : (i : Int) - 1 - j = p := by omega
              rw [eqJ]
              have hqp : q < p := by have := HX0.out.2.2; omega
              have hpi : p < i := by omega
              have q1 := hwr.keep r1 n1.symm
              obtain ⟨v, hv, cv, xv⟩ := HN.out.1.one (row_lt hqi hpi)
              have hbl : b < w.heap.size := World.block_lt_of_cell? w _ cv
              have cv1 := hwr.cell ((show BL w w1 from HO.out.2).cell cv) (.inl (by omega))
              obtain ⟨u, hu, cu, xu⟩ := hxr.one hqi
              obtain ⟨y, hy, cy, xy⟩ := hxr.one hpi
              have hfz : wr.frozen? ⟨g, 0 + q, none⟩ = false := by
                obtain ⟨u2, _, cu2, _⟩ := HO.out.1.2.2.2.2.one hqi
                rw [hwr.frozen cu2]; exact HO.out.1.fz (fun _ => True) _ trivial
              rw [Nat.zero_add] at cu cy hfz
              have hp0 := row_lt hqi hpi
              have xv' : cn v = M (i - 1 - t) (i - 1 - j) := by rw [xv, ← HX0.out.2.2, ← hp]; unfold rowT; rw [(row_div hpi).1, (row_div hpi).2]
              have xu' : cn u = upS M i x t j (i - 1 - t) := by rw [xu, ← HX0.out.2.2]
              have xy' : cn y = upL M i x j := by rw [xy]; unfold upS; rw [if_pos (by omega), show i - 1 - p = j by omega]
              have HX := Lib.hid (And.intro hwr (And.intro hxr (And.intro xu' (And.intro xv' (And.intro xy' hp)))))
              clear hwr hxr xu xv xy xv' xy' xu' cv hp eqJ
              go_wp2
              refine wp_region_calm_tail 15 (by kernel_rfl) (by kernel_rfl) (BL wr) (fun _ _ z => IsF (fsub u (fmul v y)) z) (BL.refl _).drew ?_
              simp only [List.take_succ_cons, List.take_zero, List.drop_succ_cons, List.drop_zero]
              repeat (first
                | (refine cmMove _ (by rfl) ?_; simp only [List.set_cons_succ, List.set_cons_zero])
                | (refine cwW (by rfl) (fun K hK w' hw => ?_); have k1 := cells_of (hw.row q1); have k2 := hw.cell cu; have k3 := hw.cell cy; go_step; refine hK _ _ hw ?_; clear hK k1 k2 k3 hw w' K)
                | (refine cwF (fun F hF w' hw => ?_); go_simp; with_reducible refine calm_call (by kernel_rfl) hw (mat_at b o nm cm i i q p i (q * i + p) v w' rfl rfl (by omega) (by omega) (hw.cell cv1)) (hF _ ?_); clear hF hw w' F; simp only [put_lit, List.set_cons_succ, List.set_cons_zero]))
              refine cwF (fun F hF w' hw => ?_); go_simp
              refine calm_callS (by kernel_rfl) hw (rsub_calls u v y w') (fun z hz => ?_)
              obtain ⟨r0, rfl, hr0, hcr0⟩ := hz
              refine hF _ ?_; clear hF hw w' F; simp only [put_lit, List.set_cons_succ, List.set_cons_zero]
              refine wpCalm_nil (fun w6 hw6 => ?_)
              have cu6 := hw6.cell cu
              have fz6 : w6.frozen? ⟨g, q, none⟩ = false := by rw [hw6.frozen (World.block_lt_of_cell? _ _ cu)]; exact hfz
              have e1 := hcr0.trans (at_sub HX.out.2.2.1 HX.out.2.2.2.1 HX.out.2.2.2.2.1)
              have HE := Lib.hid e1
              clear e1 hcr0
              go_wp2
              go_roundw
              case rel => exact ⟨j + 1, by omega, by have := HX.out.2.2.2.2.2; first | go_num | (simp; omega), HX.out.1.trans ((WrB.of_below hw6 _ _).trans (WrB.set w6 g q (fun p => p < i) hqi _)), (HX.out.2.1.put1 hw6 q r0 hqi hr0).congr fun k _ => by rw [HE.out, HX0.out.2.2, upS_more M i x hlt1]⟩
              case measure => first | (simp [intOf]; done) | (simp [intOf]; omega)
            · obtain rfl : j = t := by omega
              have hjq : (i : Int) - 1 - j = q := by have := HX0.out.2.2; omega
              rw [hjq]
              have q1 := hwr.keep r1 n1.symm
              obtain ⟨v, hv, cv, xv⟩ := HN.out.1.one (row_lt hqi hqi)
              have hbl : b < w.heap.size := World.block_lt_of_cell? w _ cv
              have cv1 := hwr.cell ((show BL w w1 from HO.out.2).cell cv) (.inl (by omega))
              obtain ⟨u, hu, cu, xu⟩ := hxr.one hqi
              have hfz : wr.frozen? ⟨g, 0 + q, none⟩ = false := by
                obtain ⟨u2, _, cu2, _⟩ := HO.out.1.2.2.2.2.one hqi
                rw [hwr.frozen cu2]; exact HO.out.1.fz (fun _ => True) _ trivial
              rw [Nat.zero_add] at cu hfz
              have hp0 := row_lt hqi hqi
              have xv' : cn v = M (i - 1 - j) (i - 1 - j) := by rw [xv, ← HX0.out.2.2]; unfold rowT; rw [(row_div hqi).1, (row_div hqi).2]
              have xu' : cn u = upS M i x j j (i - 1 - j) := by rw [xu, ← HX0.out.2.2]
              have HX := Lib.hid (And.intro hwr (And.intro hxr (And.intro xu' xv')))
              clear hwr hxr xu xv xv' xu' cv hjq
              go_wp2
              refine wp_region_calm_tail 11 (by kernel_rfl) (by kernel_rfl) (BL wr) (fun _ _ z => IsF (fdiv u v) z) (BL.refl _).drew ?_
              simp only [List.take_succ_cons, List.take_zero, List.drop_succ_cons, List.drop_zero]
              repeat (first
                | (refine cmMove _ (by rfl) ?_; simp only [List.set_cons_succ, List.set_cons_zero])
                | (refine cwW (by rfl) (fun K hK w' hw => ?_); have k1 := cells_of (hw.row q1); have k2 := hw.cell cu; go_step; refine hK _ _ hw ?_; clear hK k1 k2 hw w' K)
                | (refine cwF (fun F hF w' hw => ?_); go_simp; with_reducible refine calm_call (by kernel_rfl) hw (mat_at b o nm cm i i q q i (q * i + q) v w' rfl rfl (by omega) (by omega) (hw.cell cv1)) (hF _ ?_); clear hF hw w' F; simp only [put_lit, List.set_cons_succ, List.set_cons_zero]))
              refine cwF (fun F hF w' hw => ?_); go_simp
              refine calm_callS (by kernel_rfl) hw (over_calls u v w') (fun z hz => ?_)
              obtain ⟨r0, rfl, hr0, hcr0⟩ := hz
              refine hF _ ?_; clear hF hw w' F; simp only [put_lit, List.set_cons_succ, List.set_cons_zero]
              refine wpCalm_nil (fun w6 hw6 => ?_)
              have cu6 := hw6.cell cu
              have fz6 : w6.frozen? ⟨g, q, none⟩ = false := by rw [hw6.frozen (World.block_lt_of_cell? _ _ cu)]; exact hfz
              have e1 := hcr0.trans (at_div HX.out.2.2.1 HX.out.2.2.2)
              have HE := Lib.hid e1
              clear e1 hcr0
              go_wp2
              go_roundw
              case rel => exact ⟨j + 1, by omega, by have := HX0.out.2.2; first | go_num | (simp; omega), HX.out.1.trans ((WrB.of_below hw6 _ _).trans (WrB.set w6 g q (fun p => p < i) hqi _)), (HX.out.2.1.put1 hw6 q r0 hqi hr0).congr fun k _ => by rw [HE.out, HX0.out.2.2, upS_row M i x hlt1]⟩
              case measure => first | (simp [intOf]; done) | (simp [intOf]; omega)
        · obtain rfl : t = i := by omega
          have HX := Lib.hid (And.intro hwr hxr)
          clear hwr hxr
          go_wp2
          go_ret2
          exact ⟨_, _, by rw [R1.out]; rfl, by rw [R1.out]; exact HO.out.1.wrote HX.out.1 (fun _ => HX.out.2.congr fun k hk => upS_all M t x hk), below_wr HO.out.2 HX.out.1 hgw⟩
end Go.Proofs.Ytapilgbbkbfcbaa
