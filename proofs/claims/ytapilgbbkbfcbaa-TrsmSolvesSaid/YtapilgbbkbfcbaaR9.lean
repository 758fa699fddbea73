/- Layer 14: solving by blocks, upper: what the code computes. -/
import Derived.RangeFuncNested
import Derived.Test.YtapilgbbkbfcbaaR8
namespace Go.Proofs.Ytapilgbbkbfcbaa
open Go Go.RowKit Go.Shelf
attribute [local go_sem] Oper.semAt_some

/-- A block: where it begins, how many there are. -/
def itB (N s m t : Nat) : Nat × Nat := (cutAt N s m t, cutAt N s m (t + 1) - cutAt N s m t)
theorem WrB.grown {w0 W W' : World} {b : Nat} {S : Nat → Prop} {row : Option Nat} (h : WrB w0 W b S) (hg : W.grownBy W' row) (hr : ∀ r, row = some r → w0.heap.size ≤ r) (hb : b < w0.heap.size) : WrB w0 W' b S :=
  ⟨hg.os.trans h.os, hg.tape.trans h.tape, hg.output.trans h.output, Nat.le_trans h.size hg.size, fun k hk hkb => (hg.block k (Nat.lt_of_lt_of_le hk h.size) (fun e => by have := hr k e.symm; omega)).trans (h.other k hk hkb),
    fun cs T z hc => let ⟨cs', h1, h2, h3⟩ := h.row cs T z hc; ⟨cs', (hg.block b (Nat.lt_of_lt_of_le hb h.size) (fun e => by have := hr b e.symm; omega)).trans h1, h2, h3⟩⟩
theorem MAt.grown {W W' : World} {b o B : Nat} {off ld : Int} {R C : Nat} {X : Nat → Nat → Nat} {row : Option Nat} (h : MAt W b o off ld R C X) (hg : W.grownBy W' row) (hr : ∀ r, row = some r → B ≤ r) (hb : b < B) : MAt W' b o off ld R C X :=
  fun i j hi hj => let ⟨v, hv, hc, hx⟩ := h i j hi hj; ⟨v, hv, (World.cell?_of_block (w := W) (hg.block b (World.block_lt_of_cell? W _ hc) (fun e => by have := hr b e.symm; omega))).trans hc, hx⟩
theorem KeepsFrom.of_wr {B : Nat} {W W' : World} {b : Nat} {S : Nat → Prop} (h : WrB W W' b S) (hb : b < B) : KeepsFrom B W W' := ⟨h.size, fun k o hk ho _ => (h.other k (Array.getElem?_eq_some_iff.1 ho).1 (by omega)).trans ho⟩
theorem KeepB.of_wr {Bs g : Nat} {W W' : World} {b : Nat} {S : Nat → Prop} (h : WrB W W' b S) (h1 : Bs ≠ b) (h2 : g ≠ b) (l1 : Bs < W.heap.size) (l2 : g < W.heap.size) : KeepB Bs g W W' := ⟨h.size, h.other _ l1 h1, h.other _ l2 h2⟩

theorem gen_callIn {F : Fence} {n : Nat} {P : Program} {f : FuncId} {args : Array Value} {w : World} {R : Ending → World → Prop} (h : ∀ W, W = w → CallsIn F n P f args W R) : CallsIn F n P f args w R := h w rfl
theorem gen_worldIn {F : Fence} {n : Nat} {P : Program} {c : Code} {Q : Exit → Act → World → Prop} {a : Act} {w : World} (h : ∀ W, W = w → c.wpIn F n P Q a W) : c.wpIn F n P Q a w := h w rfl

set_option maxRecDepth 100000
set_option maxHeartbeats 4000000 in
theorem tsolve2 (bm om nm cm : Nat) (offm ld : Int) (A' : Option Addr) (b o n c : Nat) (off ldx : Int) (N C : Nat) (size : Int) (w : World) (X M : Nat → Nat → Nat) (hA' : 0 < C → A' = some ⟨b, o, none⟩)
    (hs : (nm : Int) ≤ lim) (h1 : I64 offm) (h4 : I64 ld) (hg : goodP nm offm N N ld)
    (hs' : (n : Int) ≤ lim) (h1' : I64 off) (h3' : I64 ldx) (hg' : goodP n off N C ldx) (hN1 : 1 ≤ N) (hN4 : N ≤ 4096) (hCi : I64 C) (hz : 1 ≤ size) (hz9 : I64 size)
    (hsame : bm = b → om = o) (hmt : ¬ meetP (some ⟨b, o, none⟩) off N C ldx (some ⟨bm, om, none⟩) offm N N ld) (hab : (⟨b, o, none⟩ : Addr) ≠ ⟨bm, om, none⟩ → ApartOK w ⟨b, o, none⟩ ⟨bm, om, none⟩)
    (hA2 : 0 < n → ∃ a, A' = some a) (hab2 : 0 < n → ∀ a, A' = some a → a ≠ ⟨bm, om, none⟩ → ApartOK w a ⟨bm, om, none⟩)
    (hX : MAt w b o off ldx N C X) (hM : MAt w bm om offm ld N N M) (hd : ∀ k, k < N → feq (M k k) 0 = false) (hf : FZ w b (MS o off ldx N C)) (hby : b < w.heap.size) :
    Calls Try.prog 10 #[.int .i64 2, .int .i64 size, .agg #[.slice (some ⟨bm, om, none⟩) nm cm, .int .i64 offm, .int .i64 N, .int .i64 N, .int .i64 ld], .agg #[.slice A' n c, .int .i64 off, .int .i64 N, .int .i64 C, .int .i64 ldx]] w
      fun e w' => e = .returned (.int .i64 0) ∧ WrB w w' b (MS o off ldx N C) ∧ MAt w' b o off ldx N C (fun i k => upN M N N (fun i => X i k) i) := by
  have hNi : I64 N := by unfold I64; omega
  obtain ⟨s, hsm⟩ : ∃ s : Nat, (s : Int) = min size N := ⟨(min size N).toNat, by omega⟩
  have hs1 : 1 ≤ s := by omega
  obtain ⟨m, hm1, hm2, hm3⟩ : ∃ m : Nat, 1 ≤ m ∧ (m - 1) * s < N ∧ N ≤ m * s := by
    refine ⟨(N - 1) / s + 1, Nat.le_add_left _ _, ?_, ?_⟩
    · have := Nat.div_mul_le_self (N - 1) s
      simp only [Nat.add_sub_cancel]; omega
    · have := Nat.lt_div_mul_add (a := N - 1) (b := s) (by omega)
      rw [Nat.add_mul]; omega
  have hm9 : m ≤ 4096 := by
    have : m - 1 < N := Nat.lt_of_le_of_lt (Nat.le_mul_of_pos_right (m - 1) hs1) hm2
    omega
  have hoff : 0 ≤ off := hg'.2.2.1
  have HD := Lib.hid hd
  have HS1 := Lib.hid (And.intro hg (And.intro hg' (And.intro hM (And.intro hX (And.intro hf (And.intro hmt (And.intro hab (And.intro hab2 (And.intro hA' (And.intro hA2 (And.intro hsame hsm)))))))))))
  clear hd hg hg' hM hX hf hmt hab hab2 hA' hA2 hsame hsm
  refine (callsIn_wide (n := 12)).1 ?_
  refine callsIn_of_wp_marks Try.func10 rfl trivial ?_ rfl
  simp only [Try.ntmps10, List.size_toArray, List.length_cons, List.length_nil, Nat.reduceAdd, Nat.reduceSub, Array.replicate_succ, Array.replicate_zero, List.push_toArray, List.append_toArray, List.nil_append, List.cons_append]
  gi_wp2_with fail
  refine ⟨trivial, ?_⟩
  refine gen_callIn (fun W hW => ?_)
  have hB : BL w W := by rw [hW]; repeat (first | exact Below.refl _ _ | refine Below.alloc ?_ (by first | (simp; done) | (simp; omega)) _)
  have hbk : W.heap[w.heap.size]? = some (.cells #[.int .i64 2] 3 (0, 0)) := by
    rw [hW]; rw [Below.heap_alloc _ _ _ (by first | (simp; done) | (simp; omega)), Below.heap_alloc _ _ _ (by first | (simp; done) | (simp; omega))]; exact new_row _ _
  have hbm : W.heap[w.heap.size + 1]? = some (.cells #[.slice (some ⟨bm, om, none⟩) nm cm, .int .i64 offm, .int .i64 N, .int .i64 N, .int .i64 ld] 24 (0, 0)) := by
    rw [hW]; rw [Below.heap_alloc _ _ _ (by first | (simp; done) | (simp; omega))]; have := fun w2 : World => fun h : w2.heap.size = w.heap.size + 1 => h ▸ new_row w2 (.cells #[.slice (some ⟨bm, om, none⟩) nm cm, .int .i64 offm, .int .i64 N, .int .i64 N, .int .i64 ld] 24); exact this _ (by simp)
  have hbx : W.heap[w.heap.size + 2]? = some (.cells #[.slice A' n c, .int .i64 off, .int .i64 N, .int .i64 C, .int .i64 ldx] 24 (0, 0)) := by
    rw [hW]; have := fun w2 : World => fun h : w2.heap.size = w.heap.size + 2 => h ▸ new_row w2 (.cells #[.slice A' n c, .int .i64 off, .int .i64 N, .int .i64 C, .int .i64 ldx] 24); exact this _ (by simp)
  clear hW
  obtain ⟨hg, hg', hM, hX, hf, hmt, hab, hab2, hA', hA2, hsame, hsm⟩ := HS1.out
  refine (callsIn_wide.2 (tcheck_good 2 size (some ⟨bm, om, none⟩) nm cm offm N N ld A' n c off N C ldx W M hs h1 hNi hNi h4 hs' h1' hNi hCi h3' (.inr rfl) hz hg hg' (fun _ => ⟨_, rfl⟩) hA2 (fun l1 _ a a' ha ha' hne => by cases ha'; exact (hab2 l1 a ha hne).later hB) (fun _ _ => ⟨bm, om, rfl, hM.later hB⟩) 0 (tchk_ok (fun h => hA' (by omega)) rfl hmt (fun _ ⟨k, hk, h⟩ => by rw [HD.out k (by omega)] at h; cases h)))).mono ?_
  clear hg hg' hM hX hf hmt hab hab2 hA' hA2 hsame hsm
  rintro e w1 ⟨rfl, hb1⟩
  have k1 := cells_of ((show BL W w1 from hb1).row hbk)
  have k2 := cells_of ((show BL W w1 from hb1).row hbm)
  have k3 := cells_of ((show BL W w1 from hb1).row hbx)
  have e0 : ((N : Int) == 0) = false := by rw [beq_eq_false_iff_ne]; omega
  gi_wp2_with fail
  refine ⟨trivial, ?_⟩
  refine (callsIn_wide.2 (cut_calls N s m size _ hN1 hN4 hz hz9 HS1.out.2.2.2.2.2.2.2.2.2.2.2 hm1 hm2 hm3)).mono ?_
  rintro e w2 ⟨v, rfl, hown, hnn, hb2⟩
  clear k1 k2 k3
  have hB2 : BL W w2 := (show BL W w1 from hb1).call hb2
  have k1 := cells_of (hB2.row hbk)
  obtain ⟨xs, hxs⟩ : ∃ xs, xs = flatB (blkL N s m m) := ⟨_, rfl⟩
  rw [← hxs] at hown
  have hown2 := hown
  rcases hown.2 with ⟨rfl, h⟩ | ⟨g, cap, cur, rfl, hbg, hh, hq1, hq2, hq3⟩
  · exact absurd h (by omega)
  have HQ := Lib.hid (And.intro hxs hown2)
  clear hown hown2 hnn hxs hq3
  gi_wp2_with fail
  refine ⟨trivial, ?_⟩
  refine (back_in _ _ trivial rfl _ _ _ _).mono ?_
  rintro e w3 ⟨rfl, hw3⟩
  gi_wp2
  obtain ⟨W0, hW0⟩ : ∃ W0, w2.alloc (.cells #[.slice (some ⟨g, 0, none⟩) m cap] 61) = W0 := ⟨_, rfl⟩
  rw [hW0]
  have hm0 : 0 < m := hm1
  have hz0 : W0.heap.size = w2.heap.size + 1 := by rw [← hW0]; simp
  have hB0 : BL w2 W0 := by rw [← hW0]; exact (Below.refl _ _).alloc (Nat.le_refl _) _
  have hbs : W0.heap[w2.heap.size]? = some (.cells #[.slice (some ⟨g, 0, none⟩) m cap] 61 (0, 0)) := by rw [← hW0]; exact new_row _ _
  have hgr := hB0.row hh
  have hgz : g < w2.heap.size := (Array.getElem?_eq_some_iff.1 hh).1
  have hb : b < W0.heap.size := Nat.lt_of_lt_of_le hby (Nat.le_trans hB.size (Nat.le_trans hB2.size hB0.size))
  have hgb : b < g := Nat.lt_of_lt_of_le hby (Nat.le_trans hB.size (Nat.le_trans hb1.size hbg))
  have hB0w : BL w W0 := BL.call hB (hB2.call hB0)
  have hbk0 := (hB2.call hB0).row hbk
  have hbm0 := (hB2.call hB0).row hbm
  have hbx0 := (hB2.call hB0).row hbx
  have hcb : ∀ t, t < m → cur[t * 2]? = some (.int .i64 ((itB N s m t).1 : Int)) ∧ cur[t * 2 + 1]? = some (.int .i64 ((itB N s m t).2 : Int)) := fun t ht => by
    obtain ⟨p1, p2⟩ := blk_cell HQ.out.1 HQ.out.2 t ht
    rw [← cells_of hh, ← cells_of hh]; exact ⟨p1, p2⟩
  clear k1 hw3 hW0
  refine wpIn_rangeFunc_ownH rfl (by decide) (gf := 64) (lb := #[.pointer (some ⟨w2.heap.size, 0, none⟩)]) rfl trivial (enters_of Try.func64 (by kernel_rfl) rfl)
    (back_stops Fence.wide 11 trivial rfl (by decide) w2.heap.size g cap m (itB N s m) _ _ cur hm9 hm0 W0 hbs hgr hcb) KeepB.trans
    (fun W l o o' hl ho _ _ => ⟨by simp, World.putObj_heap_other (by omega), World.putObj_heap_other (by omega)⟩) (Below.refl _ _) (fun _ => rfl)
    (fun pre W' => WrB W0 W' b (MS o off ldx N C) ∧ ∃ Xc, MAt W' b o off ldx N C Xc ∧ (∀ k, k ≤ m → pre = back hm0 k → ∀ i j, i < N → j < C → Xc i j = upN M N (N - cutAt N s m (m - k)) (fun i => X i j) i))
    (fun _ _ _ => False)
    (fun pre W1 W2 row hs hg hr => ⟨hs.1.grown hg (fun r e => (hr r e).1) hb, let ⟨Xc, h1, h2⟩ := hs.2; ⟨Xc, h1.grown hg (fun r e => (hr r e).1) hb, h2⟩⟩)
    (fun _ _ _ _ _ hs _ _ => hs)
    ⟨WrB.refl _ _ _, X, HS1.out.2.2.2.1.later hB0w, fun k hk he i j hi hj => by
      obtain rfl : k = 0 := by have := congrArg List.length he; rw [back_length] at this; exact this.symm
      rw [Nat.sub_zero, show cutAt N s m m = N from if_neg (Nat.lt_irrefl m), Nat.sub_self]; rfl⟩
    (fun x a' W => ∃ Bx, W0.heap.size ≤ Bx ∧ W.heap[Bx]? = some (.cells #[.int .i64 ((itB N s m x.1).1 : Int), .int .i64 ((itB N s m x.1).2 : Int)] 63 (0, 0)) ∧ a' = { tmps := #[Value.int .i64 2, .int .i64 size, Value.agg #[.slice (some ⟨bm, om, none⟩) nm cm, .int .i64 offm, .int .i64 N, .int .i64 N, .int .i64 ld], Value.agg #[.slice A' n c, .int .i64 off, .int .i64 N, .int .i64 C, .int .i64 ldx], .pointer (some ⟨w.heap.size, 0, none⟩), undef, .pointer (some ⟨w.heap.size + 1, 0, none⟩), .pointer (some ⟨w.heap.size + 1 + 1, 0, none⟩), .int .i64 0, .int .i64 0, .int .i64 N, .slice (some ⟨g, 0, none⟩) m cap, undef, undef, undef, undef, undef, undef, .pointer (some ⟨Bx, 0, none⟩), undef, undef, undef, .int .i64 2, .int .i64 size, Value.agg #[.slice (some ⟨bm, om, none⟩) nm cm, .int .i64 offm, .int .i64 N, .int .i64 N, .int .i64 ld], Value.agg #[.slice A' n c, .int .i64 off, .int .i64 N, .int .i64 C, .int .i64 ldx], .int .i64 0, .pointer (some ⟨w.heap.size + 1, 2, none⟩), .int .i64 N, .int .i64 0, .bool false, .bool false, .int .i64 N, .bool false, .bool false, undef, .int .i64 N, .int .i64 size, .slice (some ⟨g, 0, none⟩) m cap, .int .i64 2, .bool false, undef, undef, undef, undef, undef, undef, undef, undef, undef, undef, undef, undef, undef, undef, undef, undef, undef, undef, undef, undef, undef, undef, undef, undef, undef, undef, undef, undef, undef, undef, undef, undef, undef, undef, undef, undef, undef, undef, undef, undef, undef, undef, undef, undef, undef, undef, undef, undef, undef, undef, undef, undef, undef, .slice (some ⟨g, 0, none⟩) m cap, .func (.func 64) #[] #[.pointer (some ⟨w2.heap.size, 0, none⟩)], .int .i64 (x.1 : Int), .agg #[.int .i64 ((itB N s m x.1).1 : Int), .int .i64 ((itB N s m x.1).2 : Int)], undef, undef, undef, undef, undef, undef, undef, undef, undef, undef, undef, undef, undef, undef, undef, undef, undef, undef, undef, undef, undef, undef, undef, undef, undef, undef, undef, undef, undef, undef, undef, undef, undef, undef, undef, undef, undef, undef, undef, undef, undef, undef], defers := [] })
    (fun x a' _ X Y row hs hg hr => by
      obtain ⟨Bx, h1, h2, h3⟩ := hs
      exact ⟨Bx, h1, (hg.block Bx (Array.getElem?_eq_some_iff.1 h2).1 (fun e => by obtain ⟨_, o, ho, hc⟩ := hr Bx e.symm; rw [h2] at ho; cases ho; cases hc)).trans h2, h3⟩)
    ?assign ?body ?done ?stop
  case assign =>
    rintro l pre x W K hi hK
    simp only [encB]
    gi_wp2
    refine hK _ _ ((KeepsOthers.alloc _ _).from _) ⟨by simp, Below.heap_alloc _ _ _ ?_, Below.heap_alloc _ _ _ ?_⟩ ⟨hi.1.trans (WrB.of_below ((Below.refl _ _).alloc (Nat.le_refl _) _) _ _), ?_⟩ ⟨W.heap.size, hi.1.size, ?_, ?_⟩
    · have := hi.1.size; omega
    · have := hi.1.size; omega
    · obtain ⟨Xc, h1, h2⟩ := hi.2
      exact ⟨Xc, h1.later ((Below.refl _ _).alloc (Nat.le_refl _) _), h2⟩
    · exact new_row _ _
    · rfl
  case body =>
    rintro l pre ⟨t, ht⟩ a' W hl ⟨rr, hrr⟩ ⟨hwr, Xc, hxc, hxe⟩ ⟨Bx, hBx, bX, rfl⟩ hlt
    have l1 := cutAt_lt hs1 hm2 ht
    have l2 := cutAt_le (n := N) (s := s) (k := m) (i := t + 1) hm2
    obtain ⟨p, hp⟩ : ∃ p, p = (itB N s m t).1 := ⟨_, rfl⟩
    obtain ⟨q, hq⟩ : ∃ q, q = (itB N s m t).2 := ⟨_, rfl⟩
    dsimp only at bX ⊢
    rw [← hp, ← hq] at bX
    rw [← hp, ← hq]
    have hp' : p = cutAt N s m t := hp
    have hq' : q = cutAt N s m (t + 1) - cutAt N s m t := hq
    have hpq : p + q ≤ N := by omega
    have hq1 : 1 ≤ q := by omega
    have hpe : cutAt N s m (t + 1) = p + q := by omega
    have HX := Lib.hid (And.intro hwr (And.intro hxc (And.intro hpe (And.intro hp' (And.intro hxe (And.intro hrr hlt))))))
    have qa1 := hwr.keep hbk0 (by omega)
    have qa2 := hwr.keep hbm0 (by omega)
    have qa3 := hwr.keep hbx0 (by omega)
    have hWz := hwr.size
    clear hwr hxc hpe hp hq hp' hq' hxe l1 l2 hrr hlt
    gi_wp2
    refine wpIn_region_calm_tail 5 (by kernel_rfl) (by kernel_rfl) (by kernel_rfl) (BL W) (fun _ _ _ => False) (BL.refl _).drew ?_
    simp only [List.take_succ_cons, List.take_zero, List.drop_succ_cons, List.drop_zero]
    repeat (first
      | (refine cmMove _ (by rfl) ?_; simp only [List.set_cons_succ, List.set_cons_zero])
      | (refine cmAssign _ (by rfl) ?_; simp only [List.set_cons_succ, List.set_cons_zero])
      | (refine cwW (by rfl) (fun K hK w' hw => ?_); have k1 := cells_of (hw.row bX); go_step; refine hK _ _ hw ?_; clear hK k1 hw w' K))
    refine wpCalm_nil (fun w4 hw4 => ?_)
    go_wp2
    clear bX
    have q1 := hw4.row qa1
    have q2 := hw4.row qa2
    have q3 := hw4.row qa3
    gi_wp2
    refine wpIn_region_calm_tail 13 (by kernel_rfl) (by kernel_rfl) (by kernel_rfl) (BL w4) (fun _ _ _ => False) (BL.refl _).drew ?_
    simp only [List.take_succ_cons, List.take_zero, List.drop_succ_cons, List.drop_zero]
    repeat (first
      | (refine cmMove _ (by rfl) ?_; simp only [List.set_cons_succ, List.set_cons_zero])
      | (refine cmAssign _ (by rfl) ?_; simp only [List.set_cons_succ, List.set_cons_zero])
      | (refine cwW (by rfl) (fun K hK w' hw => ?_); have k1 := cells_of (hw.row q1); have k2 := cells_of (hw.row q2); have k3 := cells_of (hw.row q3); go_step; refine hK _ _ hw ?_; clear hK k1 k2 k3 hw w' K))
    refine cwF (fun F hF w' hw => ?_); go_simp
    with_reducible refine calm_call (by kernel_rfl) hw (part_in _ _ _ _ _ _ _ _ _ _ _ _ hs h1 hNi hNi h4 HS1.out.1 (by omega) (by omega) (by omega) (by omega) (by omega) (by omega)) (hF _ ?_)
    clear hF hw w' F; simp only [put_lit, List.set_cons_succ, List.set_cons_zero]
    repeat (first
      | (refine cmMove _ (by rfl) ?_; simp only [List.set_cons_succ, List.set_cons_zero])
      | (refine cmAssign _ (by rfl) ?_; simp only [List.set_cons_succ, List.set_cons_zero])
      | (refine cwW (by rfl) (fun K hK w' hw => ?_); have k1 := cells_of (hw.row q1); have k2 := cells_of (hw.row q2); have k3 := cells_of (hw.row q3); go_step; refine hK _ _ hw ?_; clear hK k1 k2 k3 hw w' K))
    refine cwF (fun F hF w' hw => ?_); go_simp
    with_reducible refine calm_call (by kernel_rfl) hw (part_in _ _ _ _ _ _ _ _ _ _ _ _ hs' h1' hNi hCi h3' HS1.out.2.1 (by omega) (by omega) (by omega) (by omega) (by omega) (by omega)) (hF _ ?_)
    clear hF hw w' F; simp only [put_lit, List.set_cons_succ, List.set_cons_zero]
    refine wpCalm_nil (fun w5 hw5 => ?_)
    go_wp2_with fail
    have hV5 : WrB W w5 b (MS o off ldx N C) := WrB.of_below (BL.call hw4 hw5) _ _
    have hW5 := HX.out.1.trans hV5
    have hX5 := HX.out.2.1.later (BL.call hw4 hw5)
    obtain ⟨hg, hg', hM, hX, hf, hmt, hab, hab2, hA', hA2, hsame, hsm⟩ := HS1.out
    have hM5 := (hM.later hB0w).keep_off hW5 hsame hg hg' hmt
    have hf5 := (hf.later hB0w hby).wr (hX.later hB0w) hW5
    refine (tcolumns_any 2 (.inr rfl) bm om nm cm offm ld A' b o n c off ldx N q C p w5 _ M hA' hs h1 h4 hg hs' h1' h3' hg' hNi hCi hpq hsame hmt (fun h => ApartOK.wr (ApartOK.later hB0w (hab h)) hW5) hX5 hM5 (fun _ => HD.out) hf5 (Nat.lt_of_lt_of_le hb hW5.size)).mono ?_
    clear hg hg' hM hX hf hmt hab hab2 hA' hA2 hsame hsm hX5 hM5 hf5
    rintro e w6 ⟨rfl, hw6, hx6⟩
    have hV6 := hV5.trans hw6
    have q1 := hw6.keep (hw5.row q1) (by omega)
    have q2 := hw6.keep (hw5.row q2) (by omega)
    have q3 := hw6.keep (hw5.row q3) (by omega)
    obtain ⟨X5, hX5⟩ : ∃ X5 : Nat → Nat → Nat, X5 = (fun a c => blkIn (sol 2 (fun i j => M (p + i) (p + j)) q) p q (fun a => Xc a c) a) := ⟨_, rfl⟩
    rw [← hX5] at hx6
    have HY := Lib.hid (And.intro hV6 (And.intro hx6 hX5))
    clear hV6 hx6 hW5 hV5 hw6 hw5 hX5
    go_wp2
    gi_wp2
    gi_loopw [21] (fun kv wr => ∃ u : Nat, u ≤ q ∧ kv = .int .i64 ((p : Int) + q - 1 - u) ∧ WrB W wr b (MS o off ldx N C) ∧ MAt wr b o off ldx N C (fun i j => upRows M p (p + q) u (fun a => X5 a j) i)) (fun kv _ => (intOf kv - p + 1).toNat)
    case atStart => exact ⟨0, Nat.zero_le _, by simp, HY.out.1, HY.out.2.1⟩
    case round =>
      obtain ⟨u, hu, rfl, hwr, hxr⟩ := hrel
      by_cases hlu : u < q
      · obtain ⟨kk, hkk⟩ : ∃ kk : Nat, (p : Int) + q - 1 - u = kk := ⟨p + q - 1 - u, by omega⟩
        have q1 := hwr.keep qa1 (by omega)
        have q2 := hwr.keep qa2 (by omega)
        have q3 := hwr.keep qa3 (by omega)
        have hkp : p ≤ kk := by omega
        have hkN : kk + 1 ≤ N := by omega
        have hke : p + q - 1 - u = kk := by omega
        rw [hkk]
        have HR := Lib.hid (And.intro hwr (And.intro hxr (And.intro hkk hke)))
        clear hwr hxr hkk hke
        gi_wp2
        refine wpIn_region_calm_tail 14 (by kernel_rfl) (by kernel_rfl) (by kernel_rfl) (BL wr) (fun _ _ _ => False) (BL.refl _).drew ?_
        simp only [List.take_succ_cons, List.take_zero, List.drop_succ_cons, List.drop_zero]
        repeat (first
          | (refine cmMove _ (by rfl) ?_; simp only [List.set_cons_succ, List.set_cons_zero])
          | (refine cmAssign _ (by rfl) ?_; simp only [List.set_cons_succ, List.set_cons_zero])
          | (refine cwW (by rfl) (fun K hK w' hw => ?_); have k1 := cells_of (hw.row q1); have k2 := cells_of (hw.row q2); have k3 := cells_of (hw.row q3); go_step; refine hK _ _ hw ?_; clear hK k1 k2 k3 hw w' K))
        refine cwF (fun F hF w' hw => ?_); go_simp
        with_reducible refine calm_call (by kernel_rfl) hw (part_in _ _ _ _ _ _ _ _ _ _ _ _ hs h1 hNi hNi h4 HS1.out.1 (by omega) (by omega) (by omega) (by omega) (by omega) (by omega)) (hF _ ?_)
        clear hF hw w' F; simp only [put_lit, List.set_cons_succ, List.set_cons_zero]
        repeat (first
          | (refine cmMove _ (by rfl) ?_; simp only [List.set_cons_succ, List.set_cons_zero])
          | (refine cmAssign _ (by rfl) ?_; simp only [List.set_cons_succ, List.set_cons_zero])
          | (refine cwW (by rfl) (fun K hK w' hw => ?_); have k1 := cells_of (hw.row q1); have k2 := cells_of (hw.row q2); have k3 := cells_of (hw.row q3); go_step; refine hK _ _ hw ?_; clear hK k1 k2 k3 hw w' K))
        refine cwF (fun F hF w' hw => ?_); go_simp
        with_reducible refine calm_call (by kernel_rfl) hw (part_in _ _ _ _ _ _ _ _ _ _ _ _ hs' h1' hNi hCi h3' HS1.out.2.1 (by omega) (by omega) (by omega) (by omega) (by omega) (by omega)) (hF _ ?_)
        clear hF hw w' F; simp only [put_lit, List.set_cons_succ, List.set_cons_zero]
        repeat (first
          | (refine cmMove _ (by rfl) ?_; simp only [List.set_cons_succ, List.set_cons_zero])
          | (refine cmAssign _ (by rfl) ?_; simp only [List.set_cons_succ, List.set_cons_zero])
          | (refine cwW (by rfl) (fun K hK w' hw => ?_); have k1 := cells_of (hw.row q1); have k2 := cells_of (hw.row q2); have k3 := cells_of (hw.row q3); go_step; refine hK _ _ hw ?_; clear hK k1 k2 k3 hw w' K))
        refine cwF (fun F hF w' hw => ?_); go_simp
        with_reducible refine calm_call (by kernel_rfl) hw (part_in _ _ _ _ _ _ _ _ _ _ _ _ hs' h1' hNi hCi h3' HS1.out.2.1 (by omega) (by omega) (by omega) (by omega) (by omega) (by omega)) (hF _ ?_)
        clear hF hw w' F; simp only [put_lit, List.set_cons_succ, List.set_cons_zero]
        refine wpCalm_nil (fun w7 hw7 => ?_)
        go_wp2_with fail
        have hV7 := HR.out.1.trans (WrB.of_below hw7 _ _)
        have hW7 := HX.out.1.trans hV7
        have hX7 := HR.out.2.1.later hw7
        obtain ⟨hg, hg', hM, hX, hf, hmt, hab, hab2, hA', hA2, hsame, hsm⟩ := HS1.out
        have hM7 := (hM.later hB0w).keep_off hW7 hsame hg hg' hmt
        have hf7 := (hf.later hB0w hby).wr (hX.later hB0w) hW7
        have H := tless_any bm om nm cm offm ld A' b o n c off ldx N 1 p C kk 0 w7 _ M hA' hs h1 h4 hg hs' h1' h3' hg' hNi hCi hkN (by omega) (by omega) hsame hmt (fun h => ApartOK.wr (ApartOK.later hB0w (hab h)) hW7) hX7 hM7 hf7 (Nat.lt_of_lt_of_le hb hW7.size)
        simp only [Int.natCast_zero, Int.natCast_one] at H
        refine H.mono ?_
        clear H hg hg' hM hX hf hmt hab hab2 hA' hA2 hsame hsm hX7 hM7 hf7
        rintro e w8 ⟨rfl, hw8, hx8⟩
        have HZ := Lib.hid (And.intro (hV7.trans hw8) hx8)
        clear hw8 hx8 hW7 hV7 hw7
        go_wp2
        gi_wp2
        go_roundw
        case rel =>
          refine ⟨u + 1, by omega, congrArg (Value.int .i64) (by have := HR.out.2.2.1; omega), HZ.out.1, HZ.out.2.congr fun i j hi hj => ?_⟩
          simp only [Nat.zero_add]
          show _ = blkIn (lessC (fun i j => M i (p + q - 1 - u + j)) p 1 (fun j' => upRows M p (p + q) u (fun a => X5 a j) (p + q - 1 - u + j'))) 0 p (upRows M p (p + q) u (fun a => X5 a j)) i
          rw [HR.out.2.2.2]
        case measure => first | (simp [intOf]; done) | (simp [intOf]; omega)
      · obtain rfl : u = q := by omega
        have HR := Lib.hid (And.intro hwr hxr)
        clear hwr hxr
        have hlt2 : ¬ ((p : Int) ≤ (p : Int) + u - 1 - u) := by omega
        gi_wp2
        refine ⟨KeepsFrom.of_wr HR.out.1 (by omega), KeepB.of_wr HR.out.1 (by omega) (by omega) (by omega) (by omega), HX.out.1.trans HR.out.1, _, HR.out.2, fun k hk he i j hi hj => ?_⟩
        obtain ⟨k', rfl⟩ : ∃ k', k = k' + 1 := ⟨k - 1, by
          have := congrArg List.length he
          rw [back_length] at this; simp at this; omega⟩
        rw [back_succ] at he
        obtain ⟨hpre, hlast⟩ := List.append_inj' he rfl
        have hlast' : t = m - 1 - k' := congrArg Subtype.val (List.singleton_inj.1 hlast)
        have hx := HX.out.2.2.2.2.1 k' (by omega) hpre
        rw [show m - k' = t + 1 by omega, HX.out.2.2.1] at hx
        rw [show m - (k' + 1) = t by omega, ← HX.out.2.2.2.1, HY.out.2.2]
        exact blk_up M N (fun i => X i j) (fun i hi => HS1.out.2.2.2.1.nrm hi hj) p u hpq (fun a => Xc a j) (fun a ha => hx a j ha hj) i hi
  case done =>
    rintro D ys W hD rfl ⟨hwr, Xc, hxc, hxe⟩ hK
    have HR := Lib.hid (And.intro hwr (And.intro hxc hxe))
    clear hwr hxc hxe
    gi_wp2
    refine ⟨by simp, .inl ⟨_, _, rfl, run_takeDeferred hK, ?_⟩⟩
    have hgw := grownBy_putObj' W D (.deferred none)
    have hrr : ∀ r, some D = some r → W0.heap.size ≤ r := fun r e => by cases e; omega
    refine ⟨_, results_tmp rfl _ _ _, rfl, (WrB.of_below hB0w _ _).trans (HR.out.1.grown hgw hrr hb), (HR.out.2.1.grown hgw hrr hb).congr fun i j hi hj => ?_⟩
    rw [HR.out.2.2 m (Nat.le_refl m) rfl i j hi hj, Nat.sub_self, show cutAt N s m 0 = 0 by unfold cutAt; rw [if_pos hm0, Nat.zero_mul], Nat.sub_zero]
  case stop =>
    rintro D c pre W _ _ h _
    exact h.elim
end Go.Proofs.Ytapilgbbkbfcbaa
