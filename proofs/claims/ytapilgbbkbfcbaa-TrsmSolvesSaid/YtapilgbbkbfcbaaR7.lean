/- Layer 14: solving by blocks, lower: what the code computes. -/
import Derived.Test.YtapilgbbkbfcbaaR6
import Derived.Test.YtapilgbbkbfcbaaB2
import Derived.Outline
namespace Go.Proofs.Ytapilgbbkbfcbaa
open Go Go.RowKit

theorem flatB_get (l : List (Nat × Nat)) (t : Nat) {p : Nat × Nat} (h : l[t]? = some p) : (flatB l)[t * 2]? = some (.int .i64 ((p.1 : Nat) : Int)) ∧ (flatB l)[t * 2 + 1]? = some (.int .i64 ((p.2 : Nat) : Int)) := by
  induction l generalizing t with
  | nil => cases h
  | cons a l ih =>
    cases t with
    | zero => cases h; exact ⟨rfl, rfl⟩
    | succ t =>
      have := ih t (by simpa using h)
      rw [show (t + 1) * 2 = t * 2 + 1 + 1 by omega]
      exact this
/-- A block's two numbers as they stand in memory. -/
theorem blk_cell {w : World} {base g cap n s m : Nat} {xs : List Value} (hx : xs = flatB (blkL n s m m)) (hown : w.ownsRow base 63 2 (.slice (some ⟨g, 0, none⟩) m cap) m xs) (t : Nat) (ht : t < m) :
    w.cell? ⟨g, t * 2, none⟩ = some (.int .i64 ((cutAt n s m t : Nat) : Int)) ∧ w.cell? ⟨g, t * 2 + 1, none⟩ = some (.int .i64 ((cutAt n s m (t + 1) - cutAt n s m t : Nat) : Int)) := by
  have hb : (blkL n s m m)[t]? = some (cutAt n s m t, cutAt n s m (t + 1) - cutAt n s m t) := by simp [blkL, ht]
  obtain ⟨h1, h2⟩ := flatB_get _ t hb
  subst hx
  exact ⟨(hown.cellAt (t * 2) (by omega)).trans h1, (hown.cellAt (t * 2 + 1) (by omega)).trans h2⟩
theorem tchk_ok {kind : Int} {A' A : Option Addr} {off N C ldx offm ld : Int} {a a' : Addr} {M : Nat → Nat → Nat} {n : Nat} (hA' : 0 < C → A' = some a') (hA : A = some a) (hmt : ¬ meetP (some a') off N C ldx (some a) offm N N ld) (hd : kind = 2 → ¬ zeroDiag M n) :
    TRes (N = N ∧ N = N) (meetP A' off N C ldx A offm N N ld) (kind = 2 ∧ zeroDiag M n) 0 := by
  subst hA
  refine ⟨fun h => absurd ⟨rfl, rfl⟩ h, fun _ h => absurd h ?_, fun _ _ => ⟨fun h => absurd h.2 (hd h.1), fun _ => rfl⟩⟩
  by_cases hC : 0 < C
  · rw [hA' hC]; exact hmt
  · exact fun h => hC h.1.2
theorem low_all (kind : Int) (hk : kind = 1) (M : Nat → Nat → Nat) (N : Nat) : sol kind M N = lowN M N N := by subst hk; rfl

set_option maxRecDepth 100000
set_option maxHeartbeats 4000000 in
theorem tsolve1 (bm om nm cm : Nat) (offm ld : Int) (A' : Option Addr) (b o n c : Nat) (off ldx : Int) (N C : Nat) (size : Int) (w : World) (X M : Nat → Nat → Nat) (hA' : 0 < C → A' = some ⟨b, o, none⟩)
    (hs : (nm : Int) ≤ lim) (h1 : I64 offm) (h4 : I64 ld) (hg : goodP nm offm N N ld)
    (hs' : (n : Int) ≤ lim) (h1' : I64 off) (h3' : I64 ldx) (hg' : goodP n off N C ldx) (hN1 : 1 ≤ N) (hN4 : N ≤ 4096) (hCi : I64 C) (hz : 1 ≤ size) (hz9 : I64 size)
    (hsame : bm = b → om = o) (hmt : ¬ meetP (some ⟨b, o, none⟩) off N C ldx (some ⟨bm, om, none⟩) offm N N ld) (hab : (⟨b, o, none⟩ : Addr) ≠ ⟨bm, om, none⟩ → ApartOK w ⟨b, o, none⟩ ⟨bm, om, none⟩)
    (hA2 : 0 < n → ∃ a, A' = some a) (hab2 : 0 < n → ∀ a, A' = some a → a ≠ ⟨bm, om, none⟩ → ApartOK w a ⟨bm, om, none⟩)
    (hX : MAt w b o off ldx N C X) (hM : MAt w bm om offm ld N N M) (hf : FZ w b (MS o off ldx N C)) (hby : b < w.heap.size) :
    Calls Try.prog 10 #[.int .i64 1, .int .i64 size, .agg #[.slice (some ⟨bm, om, none⟩) nm cm, .int .i64 offm, .int .i64 N, .int .i64 N, .int .i64 ld], .agg #[.slice A' n c, .int .i64 off, .int .i64 N, .int .i64 C, .int .i64 ldx]] w
      fun e w' => e = .returned (.int .i64 0) ∧ WrB w w' b (MS o off ldx N C) ∧ MAt w' b o off ldx N C (fun i k => lowN M N N (fun i => X i k) i) := by
  have hNi : I64 N := by unfold I64; omega
  obtain ⟨s, hsm⟩ : ∃ s : Nat, (s : Int) = min size N := ⟨(min size N).toNat, by omega⟩
  have hs1 : 1 ≤ s := by omega
  obtain ⟨m, hm1, hm2, hm3⟩ : ∃ m : Nat, 1 ≤ m ∧ (m - 1) * s < N ∧ N ≤ m * s := by
    refine ⟨(N - 1) / s + 1, Nat.le_add_left _ _, ?_, ?_⟩
    · have := Nat.div_mul_le_self (N - 1) s
      simp only [Nat.add_sub_cancel]; omega
    · have := Nat.lt_div_mul_add (a := N - 1) (b := s) (by omega)
      rw [Nat.add_mul]; omega
  have hm9 : m ≤ 4096 := by
    have : m - 1 < N := Nat.lt_of_le_of_lt (Nat.le_mul_of_pos_right (m - 1) hs1) hm2
    omega
  have hoff : 0 ≤ off := hg'.2.2.1
  have HS1 := Lib.hid (And.intro hg (And.intro hg' (And.intro hM (And.intro hX (And.intro hf (And.intro hmt (And.intro hab (And.intro hab2 (And.intro hA' (And.intro hA2 (And.intro hsame hsm)))))))))))
  clear hg hg' hM hX hf hmt hab hab2 hA' hA2 hsame hsm
  go_enter Try.func10, Try.ntmps10
  go_wp2_with fail
  refine gen_call (fun W hW => ?_)
  have hB : BL w W := by rw [hW]; repeat (first | exact Below.refl _ _ | refine Below.alloc ?_ (by first | (simp; done) | (simp; omega)) _)
  have hbk : W.heap[w.heap.size]? = some (.cells #[.int .i64 1] 3 (0, 0)) := by
    rw [hW]; rw [Below.heap_alloc _ _ _ (by first | (simp; done) | (simp; omega)), Below.heap_alloc _ _ _ (by first | (simp; done) | (simp; omega))]; exact new_row _ _
  have hbm : W.heap[w.heap.size + 1]? = some (.cells #[.slice (some ⟨bm, om, none⟩) nm cm, .int .i64 offm, .int .i64 N, .int .i64 N, .int .i64 ld] 24 (0, 0)) := by
    rw [hW]; rw [Below.heap_alloc _ _ _ (by first | (simp; done) | (simp; omega))]; have := fun w2 : World => fun h : w2.heap.size = w.heap.size + 1 => h ▸ new_row w2 (.cells #[.slice (some ⟨bm, om, none⟩) nm cm, .int .i64 offm, .int .i64 N, .int .i64 N, .int .i64 ld] 24); exact this _ (by simp)
  have hbx : W.heap[w.heap.size + 2]? = some (.cells #[.slice A' n c, .int .i64 off, .int .i64 N, .int .i64 C, .int .i64 ldx] 24 (0, 0)) := by
    rw [hW]; have := fun w2 : World => fun h : w2.heap.size = w.heap.size + 2 => h ▸ new_row w2 (.cells #[.slice A' n c, .int .i64 off, .int .i64 N, .int .i64 C, .int .i64 ldx] 24); exact this _ (by simp)
  clear hW
  obtain ⟨hg, hg', hM, hX, hf, hmt, hab, hab2, hA', hA2, hsame, hsm⟩ := HS1.out
  refine (tcheck_good 1 size (some ⟨bm, om, none⟩) nm cm offm N N ld A' n c off N C ldx W M hs h1 hNi hNi h4 hs' h1' hNi hCi h3' (.inl rfl) hz hg hg' (fun _ => ⟨_, rfl⟩) hA2 (fun l1 _ a a' ha ha' hne => by cases ha'; exact (hab2 l1 a ha hne).later hB) (fun _ _ => ⟨bm, om, rfl, hM.later hB⟩) 0 (tchk_ok (fun h => hA' (by omega)) rfl hmt (fun h => absurd h (by decide)))).mono ?_
  clear hg hg' hM hX hf hmt hab hab2 hA' hA2 hsame hsm
  rintro e w1 ⟨rfl, hb1⟩
  have k1 := cells_of ((show BL W w1 from hb1).row hbk)
  have k2 := cells_of ((show BL W w1 from hb1).row hbm)
  have k3 := cells_of ((show BL W w1 from hb1).row hbx)
  have e0 : ((N : Int) == 0) = false := by rw [beq_eq_false_iff_ne]; omega
  go_wp2_with fail
  refine (cut_calls N s m size _ hN1 hN4 hz hz9 HS1.out.2.2.2.2.2.2.2.2.2.2.2 hm1 hm2 hm3).mono ?_
  rintro e w2 ⟨v, rfl, hown, hnn, hb2⟩
  clear k1 k2 k3
  have hB2 : BL W w2 := (show BL W w1 from hb1).call hb2
  have k1 := cells_of (hB2.row hbk)
  obtain ⟨xs, hxs⟩ : ∃ xs, xs = flatB (blkL N s m m) := ⟨_, rfl⟩
  rw [← hxs] at hown
  have hown2 := hown
  rcases hown.2 with ⟨rfl, h⟩ | ⟨g, cap, cur, rfl, hbg, hh, hq1, hq2, hq3⟩
  · exact absurd h (by omega)
  have HQ := Lib.hid (And.intro hxs hown2)
  clear hown hown2 hnn hxs hq3
  go_wp2
  have hb : b < w2.heap.size := Nat.lt_of_lt_of_le hby (Nat.le_trans hB.size hB2.size)
  have hgb : b < g := Nat.lt_of_lt_of_le hby (Nat.le_trans hB.size (Nat.le_trans hb1.size hbg))
  have hB2w : BL w w2 := BL.call hB hB2
  clear k1 hb1 hb2
  go_loopw [43] (fun tv wr => ∃ t : Nat, t ≤ m ∧ tv = .int .i64 t ∧ WrB w2 wr b (MS o off ldx N C) ∧ MAt wr b o off ldx N C (fun i k => lowN M N (cutAt N s m t) (fun i => X i k) i)) (fun tv _ => (m - intOf tv).toNat)
  case atStart => exact ⟨0, Nat.zero_le _, rfl, WrB.refl _ _ _, by
    have : cutAt N s m 0 = 0 := by unfold cutAt; rw [if_pos (by omega), Nat.zero_mul]
    rw [this]; exact HS1.out.2.2.2.1.later hB2w⟩
  case round =>
    obtain ⟨t, ht, rfl, hwr, hxr⟩ := hrel
    by_cases hlt : t < m
    · have q1 := hwr.keep (hB2.row hbk) (by omega)
      have q2 := hwr.keep (hB2.row hbm) (by omega)
      have q3 := hwr.keep (hB2.row hbx) (by omega)
      obtain ⟨p1, p2⟩ := blk_cell HQ.out.1 HQ.out.2 t hlt
      have p1' := hwr.cell p1 (.inl (by omega))
      have p2' := hwr.cell p2 (.inl (by omega))
      clear p1 p2
      have l1 := cutAt_lt hs1 hm2 hlt
      have l2 := cutAt_le (n := N) (s := s) (k := m) (i := t + 1) hm2
      obtain ⟨p, hp⟩ : ∃ p, p = cutAt N s m t := ⟨_, rfl⟩
      obtain ⟨q, hq⟩ : ∃ q, q = cutAt N s m (t + 1) - cutAt N s m t := ⟨_, rfl⟩
      obtain ⟨r, hr⟩ : ∃ r : Nat, (N : Int) - p - q = r := ⟨N - p - q, by omega⟩
      have hpq : p + q ≤ N := by omega
      have hpe : cutAt N s m (t + 1) = p + q := by omega
      rw [← hq] at p2'
      rw [← hp] at p1' hxr
      have HX := Lib.hid (And.intro hwr (And.intro hxr (And.intro hpe (And.intro hp hr))))
      clear hwr hxr hpe hp hq hr l1 l2
      go_wp2
      go_quiet (fail)
      go_wp2
      rw [HX.out.2.2.2.2]
      refine gen_world (fun W3 hW3 => ?_)
      have hB3 : BL wr W3 := by rw [hW3]; repeat (first | exact BL.refl _ | refine BL.drew ?_ | refine BL.drewN ?_ _ | refine Below.alloc ?_ (by first | (simp; done) | (simp; omega)) _)
      clear hW3 p1' p2'
      have q1 := hB3.row q1
      have q2 := hB3.row q2
      have q3 := hB3.row q3
      refine wp_region_calm_tail 13 (by kernel_rfl) (by kernel_rfl) (BL W3) (fun _ _ _ => False) (BL.refl _).drew ?_
      simp only [List.take_succ_cons, List.take_zero, List.drop_succ_cons, List.drop_zero]
      repeat (first
        | (refine cmMove _ (by rfl) ?_; simp only [List.set_cons_succ, List.set_cons_zero])
        | (refine cwW (by rfl) (fun K hK w' hw => ?_); have k1 := cells_of (hw.row q1); have k2 := cells_of (hw.row q2); have k3 := cells_of (hw.row q3); go_step; refine hK _ _ hw ?_; clear hK k1 k2 k3 hw w' K))
      refine cwF (fun F hF w' hw => ?_); go_simp
      with_reducible refine calm_call (by kernel_rfl) hw (part_in _ _ _ _ _ _ _ _ _ _ _ _ hs h1 hNi hNi h4 HS1.out.1 (by omega) (by omega) (by omega) (by omega) (by omega) (by omega)) (hF _ ?_)
      clear hF hw w' F; simp only [put_lit, List.set_cons_succ, List.set_cons_zero]
      repeat (first
        | (refine cmMove _ (by rfl) ?_; simp only [List.set_cons_succ, List.set_cons_zero])
        | (refine cwW (by rfl) (fun K hK w' hw => ?_); have k1 := cells_of (hw.row q1); have k2 := cells_of (hw.row q2); have k3 := cells_of (hw.row q3); go_step; refine hK _ _ hw ?_; clear hK k1 k2 k3 hw w' K))
      refine cwF (fun F hF w' hw => ?_); go_simp
      with_reducible refine calm_call (by kernel_rfl) hw (part_in _ _ _ _ _ _ _ _ _ _ _ _ hs' h1' hNi hCi h3' HS1.out.2.1 (by omega) (by omega) (by omega) (by omega) (by omega) (by omega)) (hF _ ?_)
      clear hF hw w' F; simp only [put_lit, List.set_cons_succ, List.set_cons_zero]
      refine wpCalm_nil (fun w4 hw4 => ?_)
      go_wp2_with fail
      have hW4 : WrB w2 w4 b (MS o off ldx N C) := HX.out.1.trans (WrB.of_below (BL.call hB3 hw4) _ _)
      have hX4 := HX.out.2.1.later (BL.call hB3 hw4)
      obtain ⟨hg, hg', hM, hX, hf, hmt, hab, hab2, hA', hA2, hsame, hsm⟩ := HS1.out
      have hM4 := (hM.later hB2w).keep_off hW4 hsame hg hg' hmt
      have hf4 := (hf.later hB2w hby).wr (hX.later hB2w) hW4
      refine (tcolumns_any 1 (.inl rfl) bm om nm cm offm ld A' b o n c off ldx N q C p w4 _ M hA' hs h1 h4 hg hs' h1' h3' hg' hNi hCi hpq hsame hmt (fun h => ApartOK.wr (ApartOK.later hB2w (hab h)) hW4) hX4 hM4 (fun h => absurd h (by decide)) hf4 (Nat.lt_of_lt_of_le hb hW4.size)).mono ?_
      clear hg hg' hM hX hf hmt hab hab2 hA' hA2 hsame hsm hX4 hM4 hf4
      rintro e w5 ⟨rfl, hw5, hx5⟩
      have hW5 : WrB w2 w5 b (MS o off ldx N C) := hW4.trans hw5
      have q1 := hw5.keep (hw4.row q1) (by omega)
      have q2 := hw5.keep (hw4.row q2) (by omega)
      have q3 := hw5.keep (hw4.row q3) (by omega)
      have HY := Lib.hid (And.intro hW5 hx5)
      clear hW5 hx5 hW4 hw5 hw4 hB3
      obtain ⟨p', hp'⟩ : ∃ p' : Nat, (p : Int) + q = p' := ⟨p + q, by omega⟩
      have hpr : p' + r ≤ N := by have := HX.out.2.2.2.2; omega
      go_wp2
      refine wp_region_calm_tail 22 (by kernel_rfl) (by kernel_rfl) (BL w5) (fun _ _ _ => False) (BL.refl _).drew ?_
      simp only [List.take_succ_cons, List.take_zero, List.drop_succ_cons, List.drop_zero]
      repeat (first
        | (refine cmMove _ (by rfl) ?_; simp only [List.set_cons_succ, List.set_cons_zero])
        | (refine cwW (by rfl) (fun K hK w' hw => ?_); have k1 := cells_of (hw.row q1); have k2 := cells_of (hw.row q2); have k3 := cells_of (hw.row q3); go_step; refine hK _ _ hw ?_; clear hK k1 k2 k3 hw w' K))
      refine cwF (fun F hF w' hw => ?_); go_simp
      with_reducible refine calm_call (by kernel_rfl) hw (part_in _ _ _ _ _ _ _ _ _ _ _ _ hs h1 hNi hNi h4 HS1.out.1 (by omega) (by omega) (by omega) (by omega) (by omega) (by omega)) (hF _ ?_)
      clear hF hw w' F; simp only [put_lit, List.set_cons_succ, List.set_cons_zero]
      repeat (first
        | (refine cmMove _ (by rfl) ?_; simp only [List.set_cons_succ, List.set_cons_zero])
        | (refine cwW (by rfl) (fun K hK w' hw => ?_); have k1 := cells_of (hw.row q1); have k2 := cells_of (hw.row q2); have k3 := cells_of (hw.row q3); go_step; refine hK _ _ hw ?_; clear hK k1 k2 k3 hw w' K))
      refine cwF (fun F hF w' hw => ?_); go_simp
      with_reducible refine calm_call (by kernel_rfl) hw (part_in _ _ _ _ _ _ _ _ _ _ _ _ hs' h1' hNi hCi h3' HS1.out.2.1 (by omega) (by omega) (by omega) (by omega) (by omega) (by omega)) (hF _ ?_)
      clear hF hw w' F; simp only [put_lit, List.set_cons_succ, List.set_cons_zero]
      repeat (first
        | (refine cmMove _ (by rfl) ?_; simp only [List.set_cons_succ, List.set_cons_zero])
        | (refine cwW (by rfl) (fun K hK w' hw => ?_); have k1 := cells_of (hw.row q1); have k2 := cells_of (hw.row q2); have k3 := cells_of (hw.row q3); go_step; refine hK _ _ hw ?_; clear hK k1 k2 k3 hw w' K))
      refine cwF (fun F hF w' hw => ?_); go_simp
      with_reducible refine calm_call (by kernel_rfl) hw (part_in _ _ _ _ _ _ _ _ _ _ _ _ hs' h1' hNi hCi h3' HS1.out.2.1 (by omega) (by omega) (by omega) (by omega) (by omega) (by omega)) (hF _ ?_)
      clear hF hw w' F; simp only [put_lit, List.set_cons_succ, List.set_cons_zero]
      refine wpCalm_nil (fun w6 hw6 => ?_)
      go_wp2_with fail
      have hW6 : WrB w2 w6 b (MS o off ldx N C) := HY.out.1.trans (WrB.of_below hw6 _ _)
      have hX6 := HY.out.2.later hw6
      obtain ⟨hg, hg', hM, hX, hf, hmt, hab, hab2, hA', hA2, hsame, hsm⟩ := HS1.out
      have hM6 := (hM.later hB2w).keep_off hW6 hsame hg hg' hmt
      have hf6 := (hf.later hB2w hby).wr (hX.later hB2w) hW6
      refine (tless_any bm om nm cm offm ld A' b o n c off ldx N q r C p p' w6 _ M hA' hs h1 h4 hg hs' h1' h3' hg' hNi hCi hpq hpr (by omega) hsame hmt (fun h => ApartOK.wr (ApartOK.later hB2w (hab h)) hW6) hX6 hM6 hf6 (Nat.lt_of_lt_of_le hb hW6.size)).mono ?_
      clear hg hg' hM hf hmt hab hab2 hA' hA2 hsame hsm hX6 hM6 hf6
      rintro e w7 ⟨rfl, hw7, hx7⟩
      have HZ := Lib.hid (And.intro (hW6.trans hw7) (And.intro hx7 (And.intro hX hp')))
      clear hw7 hx7 hW6 hX hw6 hp'
      go_wp2
      go_roundw
      case rel =>
        refine ⟨t + 1, by omega, by go_num, HZ.out.1, HZ.out.2.1.congr fun i k hi hk => ?_⟩
        have hp2 := HZ.out.2.2.2
        obtain rfl : p' = p + q := by omega
        obtain rfl : r = N - (p + q) := by have := HX.out.2.2.2.2; omega
        rw [HX.out.2.2.1]
        exact blk_low M N (fun i => X i k) (fun i hi => HZ.out.2.2.1.nrm hi hk) p q hpq (fun a => lowN M N p (fun i => X i k) a) (fun _ _ => rfl) i hi
      case measure => first | (simp [intOf]; done) | (simp [intOf]; omega)
    · obtain rfl : t = m := by omega
      have HX := Lib.hid (And.intro hwr hxr)
      clear hwr hxr
      go_wp2
      go_ret
      refine ⟨rfl, (WrB.of_below hB2w _ _).trans HX.out.1, HX.out.2.congr fun i k _ _ => ?_⟩
      rw [show cutAt N s t t = N from if_neg (Nat.lt_irrefl t)]
end Go.Proofs.Ytapilgbbkbfcbaa
