/- Layer 14's law: the document's example. -/
import Derived.Test.YtapilgbbkbfcbaaRA
import Derived.Test.YtapilgbbkbfcbaaFree
namespace Go.Proofs.Ytapilgbbkbfcbaa
open Go Go.RowKit

def lst (l : List Nat) (i : Nat) : Nat := l.getD i 0
theorem lat_lst {w : World} {g : Nat} {l : List Nat} {T : TypeId} (h : w.heap[g]? = some (.cells (l.map (Value.float .f64)).toArray T (0, 0))) (hl : ∀ x ∈ l, x < 18446744073709551616 ∧ cn x = x) : LAt w (some ⟨g, 0, none⟩) l.length (lst l) := fun _ => ⟨g, 0, rfl, XAt.of_one fun i hi => by
  have hm : l[i] ∈ l := List.getElem_mem hi
  refine ⟨l[i], (hl _ hm).1, ?_, ?_⟩
  · rw [Nat.zero_add, cells_of h]; simp
  · rw [(hl _ hm).2]; simp [lst, hi]⟩
theorem dense22 (g : Nat) (l : List Nat) (T : TypeId) (w : World) (hg : w.heap[g]? = some (.cells (l.map (Value.float .f64)).toArray T (0, 0))) (hll : l.length = 4) (hl : ∀ x ∈ l, x < 18446744073709551616 ∧ cn x = x) :
    Calls Try.prog 21 #[.int .i64 2, .int .i64 2, .slice (some ⟨g, 0, none⟩) 4 4] w
      fun e w' => ∃ g, e = .returned (.agg #[.slice (some ⟨g, 0, none⟩) 4 4, .int .i64 0, .int .i64 2, .int .i64 2, .int .i64 2]) ∧ OwnL w' w.heap.size g 4 4 (denseN (lst l) 2 2 4) ∧ Below w.heap.size w w' := by
  have h := lat_lst hg hl
  rw [hll] at h
  exact dense_pos 2 2 _ 4 4 (lst l) w (by omega) (by omega) (by omega) h (by omega) (by omega)

set_option maxRecDepth 100000
theorem ex_code (meet : Prop) (hm : ¬ meet) : tcode 2 1 4 0 2 2 2 4 0 2 2 2 meet (denseN (lst [4611686018427387904, 4607182418800017408, 0, 4616189618054758400]) 2 2 4) = 0 := by
  unfold tcode
  rw [if_neg (by decide), if_neg (by decide), if_neg hm, if_neg]
  rintro ⟨_, k, hk, hz⟩
  have : k = 0 ∨ k = 1 := by have : (2 : Int).toNat = 2 := rfl; omega
  rcases this with rfl | rfl
  · exact absurd hz (by decide +kernel)
  · exact absurd hz (by decide +kernel)
theorem ex_left (meet : Prop) (hm : ¬ meet) : ∀ i, i < 4 → tleft 2 1 4 0 2 2 2 4 0 2 2 2 meet (denseN (lst [4611686018427387904, 4607182418800017408, 0, 4616189618054758400]) 2 2 4) (denseN (lst [4616189618054758400, 4616189618054758400, 4620693217682128896, 4620693217682128896]) 2 2 4) i
    = lst [4607182418800017408, 4611686018427387904, 4607182418800017408, 4611686018427387904] i := by
  unfold tleft
  rw [if_pos ⟨ex_code meet hm, by decide⟩]
  have key : ∀ i : Fin 4, intoN 0 2 (2 : Int).toNat (2 : Int).toNat (fun i j => sol 2 (tab 0 2 (denseN (lst [4611686018427387904, 4607182418800017408, 0, 4616189618054758400]) 2 2 4)) (2 : Int).toNat (fun i => tab 0 2 (denseN (lst [4616189618054758400, 4616189618054758400, 4620693217682128896, 4620693217682128896]) 2 2 4) i j) i) (denseN (lst [4616189618054758400, 4616189618054758400, 4620693217682128896, 4620693217682128896]) 2 2 4) i.1
    = lst [4607182418800017408, 4611686018427387904, 4607182418800017408, 4611686018427387904] i.1 := by decide +kernel
  exact fun i hi => key ⟨i, hi⟩

theorem OwnL.lat {w : World} {base g c n : Nat} {F : Nat → Nat} (h : OwnL w base g c n F) : LAt w (some ⟨g, 0, none⟩) n F := fun _ => ⟨g, 0, rfl, h.2.2.2.2⟩
theorem OwnL.fz {w : World} {base g c n : Nat} {F : Nat → Nat} (h : OwnL w base g c n F) (S : Nat → Prop) : FZ w g S := fun p _ => by
  obtain ⟨_, _, _, ⟨cur, h4, _⟩, _⟩ := h
  simp [World.frozen?, h4]
theorem OwnL.apart {w : World} {base g c n : Nat} {F : Nat → Nat} {base' g' c' n' : Nat} {F' : Nat → Nat} (h : OwnL w base g c n F) (h' : OwnL w base' g' c' n' F') (hc : 0 < c) (hc' : 0 < c') : ApartOK w ⟨g, 0, none⟩ ⟨g', 0, none⟩ := by
  obtain ⟨_, _, _, ⟨cur, h4, h5⟩, _⟩ := h
  obtain ⟨_, _, _, ⟨cur', h4', h5'⟩, _⟩ := h'
  exact ⟨cur, cur', _, _, _, _, h4, h4', by omega, by omega, .inl rfl⟩
theorem i64_0 : I64 0 := ⟨by decide, by decide⟩
theorem i64_1 : I64 1 := ⟨by decide, by decide⟩
theorem i64_2 : I64 2 := ⟨by decide, by decide⟩
def matV (g n c : Nat) (off R C ld : Int) : Value := .agg #[.slice (some ⟨g, 0, none⟩) n c, .int .i64 off, .int .i64 R, .int .i64 C, .int .i64 ld]

set_option maxHeartbeats 2000000 in
theorem awake_calls (w : World) : Calls Try.prog 7 #[] w fun e w' => e = .returned (.bool true) ∧ Below w.heap.size w w' := by
  go_enter Try.func7, Try.ntmps7
  go_wp2_with fail
  refine gen_call (fun W0 hW0 => ?_)
  have hB0 : BL w W0 := by rw [hW0]; exact (Below.refl _ _).alloc (Nat.le_refl _) _
  have hr0 : W0.heap[w.heap.size]? = some (.cells ([4616189618054758400, 4616189618054758400, 4620693217682128896, 4620693217682128896].map (Value.float .f64)).toArray 45 (0, 0)) := by rw [hW0]; exact new_row _ _
  clear hW0
  refine (dense22 w.heap.size [4616189618054758400, 4616189618054758400, 4620693217682128896, 4620693217682128896] _ W0 hr0 rfl (by decide)).mono ?_
  rintro e w1 ⟨g, rfl, hO1, hb1⟩
  have hz1 := hb1.size
  have hg1 : g < w1.heap.size := hO1.lt
  have hgw : w.heap.size ≤ g := Nat.le_trans hB0.size hO1.1
  go_wp2
  refine gen_world (fun W2 hW2 => ?_)
  have hB2 : BL w1 W2 := by rw [hW2]; exact (Below.refl _ _).alloc (Nat.le_refl _) _
  have hx : W2.heap[w1.heap.size]? = some (.cells #[.slice (some ⟨g, 0, none⟩) 4 4, .int .i64 0, .int .i64 2, .int .i64 2, .int .i64 2] 24 (0, 0)) := by rw [hW2]; exact new_row _ _
  clear hW2
  have HO1 := Lib.hid (hO1.later hB2)
  clear hO1
  refine wp_region_free2 3 (BL W2) (fun i => if i = 1 then [0] else [])
    (fun i v w => match i with
      | 0 => ∃ g, v = .slice (some ⟨g, 0, none⟩) 4 4 ∧ w.heap[g]? = some (.cells ([4611686018427387904, 4607182418800017408, 0, 4616189618054758400].map (Value.float .f64)).toArray 45 (0, 0))
      | 1 => ∃ g, v = matV g 4 4 0 2 2 2 ∧ OwnL w W2.heap.size g 4 4 (denseN (lst [4611686018427387904, 4607182418800017408, 0, 4616189618054758400]) 2 2 4)
      | _ => v = matV g 4 4 0 2 2 2)
    (fun _ _ => []) (by kernel_rfl) (by kernel_rfl) (BL.refl _).drew ?_ ?_
  · intro i v w w' h hb
    match i, h with
    | 0, ⟨g, h1, h2⟩ => exact ⟨g, h1, (show BL w w' from hb).row h2⟩
    | 1, ⟨g, h1, h2⟩ => exact ⟨g, h1, h2.later hb⟩
    | (n + 2), h => exact h
  · intro vs
    simp only [List.take_succ_cons, List.take_zero, List.drop_succ_cons, List.drop_zero]
    refine ob_step rfl (fun w3 hw3 _ => ?_) ?_
    · refine free_wp rfl rfl (by simp) (fun K hK => ?_)
      go_step
      refine hK _ _ ⟨hw3.call ((Below.refl _ _).alloc (Nat.le_refl _) _), (Below.refl _ _).alloc (Nat.le_refl _) _, ⟨_, rfl, new_row _ _⟩, fun b hb => by cases hb⟩
    rw [put_lit]; simp only [List.set_cons_succ, List.set_cons_zero]
    refine ob_step rfl (fun w3 hw3 hd => ?_) ?_
    · obtain ⟨g1, e1, hr1⟩ := hd 0 (List.mem_singleton.2 rfl)
      rw [e1]
      go_simp
      refine (dense22 g1 _ _ w3 hr1 rfl (by decide)).mono ?_
      rintro e w4 ⟨g2, rfl, hO2, hb2⟩
      exact ⟨_, rfl, hw3.call hb2, hb2, ⟨g2, rfl, by
        have := hO2
        exact ⟨Nat.le_trans hw3.size this.1, this.2⟩⟩, fun b hb => by cases hb⟩
    rw [put_lit]; simp only [List.set_cons_succ, List.set_cons_zero]
    refine ob_step rfl (fun w3 hw3 hd => ?_) ?_
    · refine free_wp rfl rfl (by simp) (fun K hK => ?_)
      have k1 := cells_of (hw3.row hx)
      go_step
      exact hK _ _ ⟨hw3, Below.refl _ _, rfl, fun b hb => by cases hb⟩
    rw [put_lit]; simp only [List.set_cons_succ, List.set_cons_zero]
    refine ob_end (fun w3 hw3 hψ _ _ => ?_)
    obtain ⟨g2, e2, hO2⟩ := hψ 1 (by omega)
    have e3 := hψ 2 (by omega)
    simp only at e3
    rw [e2, e3]
    unfold matV
    go_wp2_with fail
    have hO1 := HO1.out.later hw3
    have hlt : g < W2.heap.size := HO1.out.lt
    have hne : g ≠ g2 := fun e => by have := hO2.1; omega
    have hnm : ¬ meetP (some ⟨g, 0, none⟩) 0 2 2 2 (some ⟨g2, 0, none⟩) 0 2 2 2 := fun h => by have := h.2.2.1; cases this; exact hne rfl
    have H := tsolve_any 2 1 (some ⟨g2, 0, none⟩) 4 4 0 2 2 2 (some ⟨g, 0, none⟩) 4 4 0 2 2 2 w3 g 0 _ _ (by decide) i64_0 i64_2 i64_2 i64_2 (by decide) i64_0 i64_2 i64_2 i64_2 i64_1 (by decide) hO2.lat (fun _ => ⟨rfl, hO1.2.2.2.2⟩) hO1.lt (hO1.fz _)
      (fun _ _ a a' h1 h2 _ => by cases h1; cases h2; exact ⟨hne, hO1.apart hO2 (by decide) (by decide)⟩)
    rw [ex_code _ hnm] at H
    refine H.mono ?_
    clear H
    rintro e w4 ⟨rfl, hw4, hx4⟩
    have hx4' := (hx4 (by decide)).congr (ex_left _ hnm)
    have q1 := hw4.keep (hw3.row hx) (show w1.heap.size ≠ g by omega)
    have k1 := cells_of q1
    have HX := Lib.hid (And.intro hw4 (And.intro hx4' (And.intro hw3 (And.intro hO1 hlt))))
    clear hx4 hx4' hw4 hw3 hO1 hO2 hlt hψ e2 e3 hne hnm
    go_wp2_with fail
    refine (all_calls (some ⟨g, 0, none⟩) (some ⟨w4.heap.size, 0, none⟩) 4 4 4 4 _ (lst [4607182418800017408, 4611686018427387904, 4607182418800017408, 4611686018427387904]) _ (fun _ => ⟨g, 0, rfl, HX.out.2.1.later ((Below.refl _ _).alloc (Nat.le_refl _) _)⟩)
      (lat_lst (l := [4607182418800017408, 4611686018427387904, 4607182418800017408, 4611686018427387904]) (new_row _ _) (by decide)) (by decide) (by decide) true ⟨fun _ => ⟨rfl, fun _ _ => rfl⟩, fun _ => rfl⟩).mono ?_
    rintro e w5 ⟨rfl, hb5⟩
    go_wp2
    go_ret
    have hBw : BL w W2 := hB0.call (Below.trans hb1 (Below.mono hB2 hb1.size))
    have h3 := BL.call hBw HX.out.2.2.1
    refine ⟨rfl, ?_⟩
    have h4 : Below w.heap.size w w4 := ⟨HX.out.1.os.trans h3.os, HX.out.1.tape.trans h3.tape, HX.out.1.output.trans h3.output, Nat.le_trans h3.size HX.out.1.size, fun j hj => (HX.out.1.other j (Nat.lt_of_lt_of_le hj h3.size) (by omega)).trans (h3.block j hj)⟩
    exact h4.trans (Below.trans ((Below.refl _ _).alloc (Nat.le_trans h4.size (Nat.le_refl _)) _) (hb5.mono (by have := h4.size; simp; omega)))
end Go.Proofs.Ytapilgbbkbfcbaa
