/- Layer 7: a matrix times a vector: what the code computes. -/
import Derived.Test.YtapilgbbkbfcbaaG3
namespace Go.Proofs.Ytapilgbbkbfcbaa
open Go Go.RowKit

set_option maxRecDepth 100000
set_option maxHeartbeats 4000000 in
theorem gemv_calls (a be : Nat) (bm om bx ox b o nm cm nx cx n c : Nat) (offm ld offx incx off inc : Int) (R C : Nat) (w : World) (X Y : Nat → Nat) (M : Nat → Nat → Nat)
    (hsm : (nm : Int) ≤ lim) (m1 : I64 offm) (m2 : I64 R) (m3 : I64 C) (m4 : I64 ld) (hgm : goodP nm offm R C ld)
    (hsx : (nx : Int) ≤ lim) (x1 : I64 offx) (x3 : I64 incx) (hgx : rightP nx offx C incx)
    (hsy : (n : Int) ≤ lim) (y1 : I64 off) (y3 : I64 inc) (hgy : rightP n off R inc)
    (hym : ¬ meetP (some ⟨b, o, none⟩) off 1 R inc (some ⟨bm, om, none⟩) offm R C ld) (hyx : ¬ meetP (some ⟨b, o, none⟩) off 1 R inc (some ⟨bx, ox, none⟩) offx 1 C incx)
    (aym : (⟨b, o, none⟩ : Addr) ≠ ⟨bm, om, none⟩ → ApartOK w ⟨b, o, none⟩ ⟨bm, om, none⟩) (ayx : (⟨b, o, none⟩ : Addr) ≠ ⟨bx, ox, none⟩ → ApartOK w ⟨b, o, none⟩ ⟨bx, ox, none⟩)
    (hX : XAt w bx ox offx incx C X) (hM : MAt w bm om offm ld R C M) (hY : XAt w b o off inc R Y)
    (hsep : MXSep bm om offm ld R C b o off inc R) (hxs : XXSep bx ox offx incx C b o off inc R)
    (hf : ∀ k : Nat, k < R → w.frozen? ⟨b, o + (off + (k : Int) * inc).toNat, none⟩ = false) (hby : b < w.heap.size) :
    Calls Try.prog 63 #[.float .f64 a, .agg #[.slice (some ⟨bm, om, none⟩) nm cm, .int .i64 offm, .int .i64 R, .int .i64 C, .int .i64 ld],
        .agg #[.slice (some ⟨bx, ox, none⟩) nx cx, .int .i64 offx, .int .i64 C, .int .i64 incx], .float .f64 be, .agg #[.slice (some ⟨b, o, none⟩) n c, .int .i64 off, .int .i64 R, .int .i64 inc]] w
      fun e w' => e = .returned (.int .i64 0) ∧ WrB w w' b (XS o off inc R) ∧ XAt w' b o off inc R (mulJ a R M X C (begN be R Y)) := by
  have HGM := Lib.hid hgm
  have HRX := Lib.hid hgx
  have HRY := Lib.hid hgy
  have HX := Lib.hid hX
  have HM := Lib.hid hM
  have HY := Lib.hid hY
  have HS := Lib.hid hsep
  have HXS := Lib.hid hxs
  have HF := Lib.hid hf
  have HYM := Lib.hid hym
  have HYX := Lib.hid hyx
  have HAM := Lib.hid aym
  have HAX := Lib.hid ayx
  clear hgm hgx hgy hX hM hY hsep hxs hf hym hyx aym ayx
  go_enter Try.func63, Try.ntmps63
  go_wp2_with fail
  refine gen_call (fun W hW => ?_)
  have hB : BL w W := by rw [hW]; exact ((((Below.refl _ _).alloc (Nat.le_refl _) _).alloc (by simp) _).alloc (by first | (simp; done) | (simp; omega)) _).alloc (by first | (simp; done) | (simp; omega)) _
  have hba : W.heap[w.heap.size]? = some (.cells #[.float .f64 a] 45 (0, 0)) := by
    rw [hW]; rw [Below.heap_alloc _ _ _ (by first | (simp; done) | (simp; omega)), Below.heap_alloc _ _ _ (by first | (simp; done) | (simp; omega)), Below.heap_alloc _ _ _ (by simp)]; exact new_row _ _
  have hbm' : W.heap[w.heap.size + 1]? = some (.cells #[.slice (some ⟨bm, om, none⟩) nm cm, .int .i64 offm, .int .i64 R, .int .i64 C, .int .i64 ld] 24 (0, 0)) := by
    rw [hW]; rw [Below.heap_alloc _ _ _ (by first | (simp; done) | (simp; omega)), Below.heap_alloc _ _ _ (by simp)]; have := fun w2 : World => fun h : w2.heap.size = w.heap.size + 1 => h ▸ new_row w2 (.cells #[.slice (some ⟨bm, om, none⟩) nm cm, .int .i64 offm, .int .i64 R, .int .i64 C, .int .i64 ld] 24); exact this _ (by simp)
  have hbx' : W.heap[w.heap.size + 2]? = some (.cells #[.slice (some ⟨bx, ox, none⟩) nx cx, .int .i64 offx, .int .i64 C, .int .i64 incx] 87 (0, 0)) := by
    rw [hW]; rw [Below.heap_alloc _ _ _ (by simp)]; have := fun w2 : World => fun h : w2.heap.size = w.heap.size + 2 => h ▸ new_row w2 (.cells #[.slice (some ⟨bx, ox, none⟩) nx cx, .int .i64 offx, .int .i64 C, .int .i64 incx] 87); exact this _ (by simp)
  have hby' : W.heap[w.heap.size + 3]? = some (.cells #[.slice (some ⟨b, o, none⟩) n c, .int .i64 off, .int .i64 R, .int .i64 inc] 87 (0, 0)) := by
    rw [hW]; have := fun w2 : World => fun h : w2.heap.size = w.heap.size + 3 => h ▸ new_row w2 (.cells #[.slice (some ⟨b, o, none⟩) n c, .int .i64 off, .int .i64 R, .int .i64 inc] 87); exact this _ (by simp)
  clear hW
  refine (gcheck_ok _ _ _ _ _ _ _ _ _ _ _ _ _ _ _ _ _ W hsm m1 m2 m3 m4 HGM.out hsx x1 x3 HRX.out hsy y1 y3 HRY.out HYM.out HYX.out (fun h => (HAM.out h).later hB) (fun h => (HAX.out h).later hB)).mono ?_
  rintro e w1 ⟨rfl, hb1⟩
  have hB1 : BL w w1 := hB.call hb1
  have k1 := cells_of ((show BL W w1 from hb1).row hba)
  have k2 := cells_of ((show BL W w1 from hb1).row hbm')
  have k3 := cells_of ((show BL W w1 from hb1).row hbx')
  have k4 := cells_of ((show BL W w1 from hb1).row hby')
  have hz3 : w.heap.size + 3 < w1.heap.size := (Array.getElem?_eq_some_iff.1 ((show BL W w1 from hb1).row hby')).1
  have hz2 : w.heap.size + 2 < w1.heap.size := by omega
  have hz1 : w.heap.size + 1 < w1.heap.size := by omega
  have hz0 : w.heap.size < w1.heap.size := by omega
  have q1 := (show BL W w1 from hb1).row hba
  have q2 := (show BL W w1 from hb1).row hbm'
  have q3 := (show BL W w1 from hb1).row hbx'
  have q4 := (show BL W w1 from hb1).row hby'
  by_cases hR : 0 < R
  · have hr0 : (0 : Int) < R := by omega
    go_wp2_with fail
    refine (begin_calls be b o n c off inc R w1 Y hsy y3 m2 HRY.out (HY.out.later hB1) (fun k hk => by rw [hB1.frozen hby]; exact HF.out k hk)).mono ?_
    rintro e w2 ⟨rfl, hw2, hY2⟩
    clear k1 k2 k3 k4
    have k1 := hw2.keep q1 (by omega)
    have k2 := cells_of (hw2.keep q2 (by omega))
    have k3 := cells_of (hw2.keep q3 (by omega))
    have k4 := cells_of (hw2.keep q4 (by omega))
    have hs2 : w1.heap.size ≤ w2.heap.size := hw2.size
    have hy3 : w.heap.size + 3 < w2.heap.size := by omega
    have hy2 : w.heap.size + 2 < w2.heap.size := by omega
    have hy1 : w.heap.size + 1 < w2.heap.size := by omega
    have hy0 : w.heap.size < w2.heap.size := by omega
    have hW12 := (WrB.of_below hB1 b (XS o off inc R)).trans hw2
    go_wp2_with fail
    refine (columns_calls a ⟨w.heap.size, 0, none⟩ bm om bx ox b o nm cm nx cx n c offm ld offx incx off inc R C w2 X (begN be R Y) M hsm m1 m2 m3 m4 HGM.out hsx HRX.out hsy HRY.out (HX.out.wr hW12 HXS.out) (HM.out.wr hW12 HS.out) hY2 HS.out HXS.out (fun k hk => ?_) hR (by rw [cells_of k1]; rfl) rfl (by show w.heap.size ≠ b; omega)).mono ?_
    · obtain ⟨v5, _, hc5, _⟩ := HY.out k hk
      rw [hw2.frozen (hB1.cell hc5), hB1.frozen hby]; exact HF.out k hk
    rintro e w3 ⟨rfl, hw3, hY3⟩
    go_wp2
    go_ret
    exact ⟨rfl, hW12.trans hw3, hY3⟩
  · have hr0 : ¬ (0 : Int) < R := by omega
    have hR0 : R = 0 := by omega
    subst hR0
    go_wp2
    go_ret
    exact ⟨rfl, WrB.of_below hB1 _ _, fun i hi => absurd hi (by omega)⟩
end Go.Proofs.Ytapilgbbkbfcbaa
