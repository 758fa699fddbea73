/- Layer 14: columns and products on parts, a table without columns too. -/
import Derived.Test.YtapilgbbkbfcbaaR5
namespace Go.Proofs.Ytapilgbbkbfcbaa
open Go Go.RowKit

/-- Nothing there is for reading alone. -/
def FZ (w : World) (b : Nat) (S : Nat → Prop) : Prop := ∀ p : Nat, S p → w.frozen? ⟨b, p, none⟩ = false
theorem FZ.wr {w w1 : World} {b o : Nat} {off ld : Int} {R C : Nat} {X : Nat → Nat → Nat} {S : Nat → Prop} (h : FZ w b (MS o off ld R C)) (hX : MAt w b o off ld R C X) (hw : WrB w w1 b S) : FZ w1 b (MS o off ld R C) := by
  rintro p ⟨i, j, hi, hj, e⟩
  obtain ⟨v, _, hc, _⟩ := hX i j hi hj
  rw [← e] at hc
  rw [hw.frozen hc]
  exact h p ⟨i, j, hi, hj, e⟩
theorem FZ.sub {w : World} {b : Nat} {S T : Nat → Prop} (h : FZ w b S) (hs : ∀ p, T p → S p) : FZ w b T := fun p hp => h p (hs p hp)
theorem FZ.later {w w1 : World} {b : Nat} {S : Nat → Prop} (h : FZ w b S) (hB : BL w w1) (hb : b < w.heap.size) : FZ w1 b S := fun p hp => (hB.frozen (a := ⟨b, p, none⟩) hb).trans (h p hp)
/-- A matrix that isn't met stays. -/
theorem MAt.keep_off {w w1 : World} {bm om : Nat} {offm ld : Int} {R K : Nat} {M : Nat → Nat → Nat} {b o : Nat} {off ldx : Int} {N C : Nat} {nm n : Int} (hM : MAt w bm om offm ld R K M) (hw : WrB w w1 b (MS o off ldx N C)) (hsame : bm = b → om = o)
    (hg : goodP nm offm R K ld) (hg' : goodP n off N C ldx) (hmt : ¬ meetP (some ⟨b, o, none⟩) off N C ldx (some ⟨bm, om, none⟩) offm R K ld) : MAt w1 bm om offm ld R K M :=
  hM.keepS hw (fun hb p hp hp' => by
    obtain ⟨i1, j1, hi1, hj1, e1⟩ := hp
    obtain ⟨i2, j2, hi2, hj2, e2⟩ := hp'
    have hld := hg'.2.2.2.1
    have hm := meet_sub hmt (sub_col (j := (j2 : Int)) (by omega) (by omega) hld) (SubSpan.refl _ _ _ _)
    have hs3 := sep_of_meet hsame hg (right_col (j := (j2 : Int)) hg' (by omega) (by omega)) hm i1 j1 i2 hi1 hj1 hi2 hb
    rw [show colOff off N ldx j2 = off + j2 * ldx from if_pos (by omega), Int.mul_one, show off + (j2 : Int) * ldx + (i2 : Int) = off + (i2 : Int) + (j2 : Int) * ldx by omega] at hs3
    omega)
/-- The columns of some rows are turned. -/
theorem step_cols {w1 w2 : World} {b o : Nat} {off ld : Int} {R C : Nat} {X : Nat → Nat → Nat} (f : Nat → (Nat → Nat) → Nat → Nat) (p q : Nat) (h : MAt w1 b o off ld R C X) (ho : 0 ≤ off) (hR : (R : Int) ≤ ld) (hp : p + q ≤ R)
    (hw : WrB w1 w2 b (MS o (partOff off ld p 0 q C) ld q C)) (hY : MAt w2 b o (partOff off ld p 0 q C) ld q C (colsN f C (fun a c => X (p + a) (0 + c)))) :
    MAt w2 b o off ld R C (fun a c => blkIn (f c) p q (fun a => X a c) a) :=
  (h.put_part ho hR p 0 q C hp (by omega) hw hY).congr fun i j _ hj => set_cols f X p q C hj

set_option maxRecDepth 100000
set_option maxHeartbeats 1000000 in
theorem tcolumns_none (kind : Int) (A A' : Option Addr) (nm cm : Nat) (offm R C ld : Int) (n c : Nat) (off R2 ldx : Int) (w : World) :
    Calls Try.prog 31 #[.int .i64 kind, .agg #[.slice A nm cm, .int .i64 offm, .int .i64 R, .int .i64 C, .int .i64 ld], .agg #[.slice A' n c, .int .i64 off, .int .i64 R2, .int .i64 0, .int .i64 ldx]] w
      fun e w' => e = .returned (.tuple #[]) ∧ Below w.heap.size w w' := by
  go_enter Try.func31, Try.ntmps31
  go_wp2
  go_loop [9] (fun i => i = .int .i64 0) (fun _ => 0)
  case atStart => rfl
  case round =>
    obtain rfl := hrel
    go_wp2
    go_end0
    exact ⟨rfl, ((Below.refl _ _).alloc (Nat.le_refl _) _).alloc (by simp) _⟩
set_option maxHeartbeats 1000000 in
theorem tless_none (A A1 A' : Option Addr) (nm cm : Nat) (offm R C ld : Int) (ny cy : Nat) (offy R1 C1 ldy : Int) (n c : Nat) (off R2 ldx : Int) (w : World) :
    Calls Try.prog 33 #[.agg #[.slice A nm cm, .int .i64 offm, .int .i64 R, .int .i64 C, .int .i64 ld], .agg #[.slice A1 ny cy, .int .i64 offy, .int .i64 R1, .int .i64 C1, .int .i64 ldy], .agg #[.slice A' n c, .int .i64 off, .int .i64 R2, .int .i64 0, .int .i64 ldx]] w
      fun e w' => e = .returned (.tuple #[]) ∧ Below w.heap.size w w' := by
  go_enter Try.func33, Try.ntmps33
  go_wp2
  go_loop [9] (fun i => i = .int .i64 0) (fun _ => 0)
  case atStart => rfl
  case round =>
    obtain rfl := hrel
    go_wp2
    go_end0
    exact ⟨rfl, (((Below.refl _ _).alloc (Nat.le_refl _) _).alloc (by simp) _).alloc (by first | (simp; done) | (simp; omega)) _⟩

/-- Of parts of a matrix and of a table that doesn't meet it. -/
theorem tcolumns_any (kind : Int) (hk : kind = 1 ∨ kind = 2) (bm om nm cm : Nat) (offm ld : Int) (A' : Option Addr) (b o n c : Nat) (off ldx : Int) (N q C p : Nat) (w : World) (X M : Nat → Nat → Nat) (hA' : 0 < C → A' = some ⟨b, o, none⟩)
    (hs : (nm : Int) ≤ lim) (h1 : I64 offm) (h4 : I64 ld) (hg : goodP nm offm N N ld)
    (hs' : (n : Int) ≤ lim) (h1' : I64 off) (h3' : I64 ldx) (hg' : goodP n off N C ldx) (hNi : I64 N) (hCi : I64 C) (hp : p + q ≤ N)
    (hsame : bm = b → om = o) (hmt : ¬ meetP (some ⟨b, o, none⟩) off N C ldx (some ⟨bm, om, none⟩) offm N N ld) (hab : (⟨b, o, none⟩ : Addr) ≠ ⟨bm, om, none⟩ → ApartOK w ⟨b, o, none⟩ ⟨bm, om, none⟩)
    (hX : MAt w b o off ldx N C X) (hM : MAt w bm om offm ld N N M) (hd : kind = 2 → ∀ k, k < N → feq (M k k) 0 = false)
    (hf : FZ w b (MS o off ldx N C)) (hby : b < w.heap.size) :
    Calls Try.prog 31 #[.int .i64 kind, .agg #[.slice (some ⟨bm, om, none⟩) nm cm, .int .i64 (partOff offm ld p p q q), .int .i64 q, .int .i64 q, .int .i64 ld], .agg #[.slice A' n c, .int .i64 (partOff off ldx p 0 q C), .int .i64 q, .int .i64 C, .int .i64 ldx]] w
      fun e w' => e = .returned (.tuple #[]) ∧ WrB w w' b (MS o off ldx N C) ∧ MAt w' b o off ldx N C (fun a c => blkIn (sol kind (fun i j => M (p + i) (p + j)) q) p q (fun a => X a c) a) := by
  by_cases hC : 0 < C
  · obtain rfl := hA' hC
    have hld := hg'.2.2.2.1
    have hldm := hg.2.2.2.1
    have hm := meet_sub hmt (sub_part (i := p) (j := 0) (r := q) (k := C) (by omega) (by omega) (by omega) (by omega) hld) (sub_part (i := p) (j := p) (r := q) (k := q) (by omega) (by omega) (by omega) (by omega) hldm)
    refine (tcolumns_calls kind hk bm om nm cm (partOff offm ld p p q q) ld b o n c (partOff off ldx p 0 q C) ldx q C w (fun a c => X (p + a) (0 + c)) (fun i j => M (p + i) (p + j)) hs
      (i64_part hs h1 hg (by omega) (by omega) (by omega) (by omega)) h4 (good_part hg (by omega) (by omega) (by omega) (by omega) (by omega) (by omega)) hs'
      (i64_part hs' h1' hg' (by omega) (by omega) (by omega) (by omega)) h3' (good_part hg' (by omega) (by omega) (by omega) (by omega) (by omega) (by omega)) ⟨by omega, by have := hNi.2; omega⟩ hCi hsame hm hab
      (hX.part p 0 q C hp (by omega)) (hM.part p p q q hp hp) (fun h k hk => hd h (p + k) (by omega)) (hf.sub fun _ h => part_places (j := 0) hp (Nat.le_of_eq (Nat.zero_add C)) h) hby).mono ?_
    rintro e w' ⟨he, hw, hY⟩
    exact ⟨he, hw.mono fun _ h => part_places (j := 0) hp (Nat.le_of_eq (Nat.zero_add C)) h, step_cols (fun _ => sol kind (fun i j => M (p + i) (p + j)) q) p q hX hg'.2.2.1 hg'.2.2.2.2.1 hp hw hY⟩
  · obtain rfl : C = 0 := by omega
    refine (tcolumns_none kind (some ⟨bm, om, none⟩) A' nm cm _ q q ld n c _ q ldx w).mono ?_
    rintro e w' ⟨he, hb⟩
    exact ⟨he, WrB.of_below hb _ _, fun i j _ hj => absurd hj (by omega)⟩
/-- A product of a part of the matrix and rows p, .., p + q - 1 is taken from the rows p', .., p' + r - 1. -/
theorem tless_any (bm om nm cm : Nat) (offm ld : Int) (A' : Option Addr) (b o n c : Nat) (off ldx : Int) (N q r C p p' : Nat) (w : World) (X M : Nat → Nat → Nat) (hA' : 0 < C → A' = some ⟨b, o, none⟩)
    (hs : (nm : Int) ≤ lim) (h1 : I64 offm) (h4 : I64 ld) (hg : goodP nm offm N N ld)
    (hs' : (n : Int) ≤ lim) (h1' : I64 off) (h3' : I64 ldx) (hg' : goodP n off N C ldx) (hNi : I64 N) (hCi : I64 C) (hp : p + q ≤ N) (hp' : p' + r ≤ N) (hpp : p' + r ≤ p ∨ p + q ≤ p')
    (hsame : bm = b → om = o) (hmt : ¬ meetP (some ⟨b, o, none⟩) off N C ldx (some ⟨bm, om, none⟩) offm N N ld) (hab : (⟨b, o, none⟩ : Addr) ≠ ⟨bm, om, none⟩ → ApartOK w ⟨b, o, none⟩ ⟨bm, om, none⟩)
    (hX : MAt w b o off ldx N C X) (hM : MAt w bm om offm ld N N M)
    (hf : FZ w b (MS o off ldx N C)) (hby : b < w.heap.size) :
    Calls Try.prog 33 #[.agg #[.slice (some ⟨bm, om, none⟩) nm cm, .int .i64 (partOff offm ld p' p r q), .int .i64 r, .int .i64 q, .int .i64 ld], .agg #[.slice A' n c, .int .i64 (partOff off ldx p 0 q C), .int .i64 q, .int .i64 C, .int .i64 ldx], .agg #[.slice A' n c, .int .i64 (partOff off ldx p' 0 r C), .int .i64 r, .int .i64 C, .int .i64 ldx]] w
      fun e w' => e = .returned (.tuple #[]) ∧ WrB w w' b (MS o off ldx N C) ∧ MAt w' b o off ldx N C (fun a c => blkIn (lessC (fun i j => M (p' + i) (p + j)) r q (fun k => X (p + k) c)) p' r (fun a => X a c) a) := by
  by_cases hC : 0 < C
  · obtain rfl := hA' hC
    have hld := hg'.2.2.2.1
    have hldm := hg.2.2.2.1
    have hm := meet_sub hmt (sub_part (i := p') (j := 0) (r := r) (k := C) (by omega) (by omega) (by omega) (by omega) hld) (sub_part (i := p') (j := p) (r := r) (k := q) (by omega) (by omega) (by omega) (by omega) hldm)
    refine (tless_calls bm om nm cm (partOff offm ld p' p r q) ld b o n c (partOff off ldx p 0 q C) ldx b o n c (partOff off ldx p' 0 r C) ldx r q C w (fun a c => X (p + a) (0 + c)) (fun a c => X (p' + a) (0 + c)) (fun i j => M (p' + i) (p + j)) hs
      (i64_part hs h1 hg (by omega) (by omega) (by omega) (by omega)) h4 (good_part hg (by omega) (by omega) (by omega) (by omega) (by omega) (by omega)) hs'
      (i64_part hs' h1' hg' (by omega) (by omega) (by omega) (by omega)) h3' (good_part hg' (by omega) (by omega) (by omega) (by omega) (by omega) (by omega)) hs'
      (i64_part hs' h1' hg' (by omega) (by omega) (by omega) (by omega)) h3' (good_part hg' (by omega) (by omega) (by omega) (by omega) (by omega) (by omega)) ⟨by omega, by have := hNi.2; omega⟩ ⟨by omega, by have := hNi.2; omega⟩ hCi hsame hm hab
      (fun _ => rfl) (fun j hj => part_cols (i := p') (r := r) (i' := p) (r' := q) hj hpp) (fun h => absurd rfl h) (fun _ => part_sep (j := 0) (j' := 0) hg'.2.2.1 hg'.2.2.2.2.1 hp (Nat.le_of_eq (Nat.zero_add C)) hp' (Nat.le_of_eq (Nat.zero_add C)) hpp.symm)
      (hX.part p' 0 r C hp' (by omega)) (hX.part p 0 q C hp (by omega)) (hM.part p' p r q hp' hp) (hf.sub fun _ h => part_places (j := 0) hp' (Nat.le_of_eq (Nat.zero_add C)) h) hby).mono ?_
    rintro e w' ⟨he, hw, hY⟩
    refine ⟨he, hw.mono fun _ h => part_places (j := 0) hp' (Nat.le_of_eq (Nat.zero_add C)) h, (step_cols (fun j => lessC (fun i j => M (p' + i) (p + j)) r q (fun k => X (p + k) (0 + j))) p' r hX hg'.2.2.1 hg'.2.2.2.2.1 hp' hw hY).congr fun i j _ _ => ?_⟩
    simp only [Nat.zero_add]
  · obtain rfl : C = 0 := by omega
    refine (tless_none (some ⟨bm, om, none⟩) A' A' nm cm _ r q ld n c _ q _ ldx n c _ r ldx w).mono ?_
    rintro e w' ⟨he, hb⟩
    exact ⟨he, WrB.of_below hb _ _, fun i j _ hj => absurd hj (by omega)⟩
end Go.Proofs.Ytapilgbbkbfcbaa
