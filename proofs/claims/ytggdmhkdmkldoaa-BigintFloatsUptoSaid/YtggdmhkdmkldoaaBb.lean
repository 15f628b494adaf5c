import Derived.Test.YtggdmhkdmkldoaaBa
namespace Go.Proofs.Ytggdmhkdmkldoaa
open Go.RowKit Hb

/-- the sign that stands beside limbs -/
def sg (neg : Bool) (l : List Nat) : Bool := neg && decide (0 < tlen l)

theorem sg_false (l : List Nat) : sg false l = false := rfl
theorem sg_zero {neg : Bool} {l : List Nat} (h : tlen l = 0) : sg neg l = false := by simp [sg, h]
theorem sg_pos {neg : Bool} {l : List Nat} (h : 0 < tlen l) : sg neg l = neg := by simp [sg, h]

set_option maxHeartbeats 400000 in
theorem laid_any (neg : Bool) {B : Nat} {A : Option Addr} {l : List Nat} {n c : Nat} {w : World} (hs : SlU w B A n c l) (hB : B ≤ w.heap.size) :
    Calls Try.prog 71 #[.bool neg, .slice A n c] w fun e w' => e = .returned (.agg #[.bool (sg neg l), .slice A (tlen l) c]) ∧ Below w.heap.size w w' := by
  have HI := Lib.hid (fun w1 (hb : Below w.heap.size w w1) => trim_any (hs.below (C := w.heap.size) hb hB))
  have HB := Lib.hid (Below.refl w.heap.size w)
  clear hs hB
  cases neg
  · go_enter Try.func71, Try.ntmps71
    go_wp2_with (go_at_call 80; refine (HI.out _ (HB.out.alloc (Nat.le_refl _) _)).mono ?_; rintro e w' ⟨rfl, rfl⟩)
    exact bodyPost_ret (v := .agg #[.bool false, .slice A (tlen l) c]) (by simp [results, Try.results71, go_sem]) rfl ⟨rfl, HB.out.alloc (Nat.le_refl _) _⟩
  · by_cases h0 : tlen l = 0
    · have HS := Lib.hid (sg_zero (neg := true) h0)
      rw [h0] at HI ⊢
      clear h0
      go_enter Try.func71, Try.ntmps71
      go_wp2_with (go_at_call 80; refine (HI.out _ (HB.out.alloc (Nat.le_refl _) _)).mono ?_; rintro e w' ⟨rfl, rfl⟩)
      exact bodyPost_ret (v := .agg #[.bool false, .slice A 0 c]) (by simp [results, Try.results71, go_sem]) rfl ⟨by rw [HS.out], HB.out.alloc (Nat.le_refl _) _⟩
    · have h1 : 0 < tlen l := by omega
      have HS := Lib.hid (sg_pos (neg := true) h1)
      generalize hk : tlen l = k at HI h1 ⊢
      clear h0 hk
      go_enter Try.func71, Try.ntmps71
      go_wp2_with (go_at_call 80; refine (HI.out _ (HB.out.alloc (Nat.le_refl _) _)).mono ?_; rintro e w' ⟨rfl, rfl⟩)
      exact bodyPost_ret (v := .agg #[.bool true, .slice A k c]) (by simp [results, Try.results71, go_sem]) rfl ⟨by rw [HS.out], HB.out.alloc (Nat.le_refl _) _⟩

/-! ### the integer that limbs stand for; results -/
def ival (neg : Bool) (l : List Nat) : Int := if neg then -(nv W l : Int) else (nv W l : Int)
theorem ival_natAbs (neg : Bool) (l : List Nat) : (ival neg l).natAbs = nv W l := by unfold ival; split <;> omega
theorem ival_tr (neg : Bool) (l : List Nat) : ival neg (tr l) = ival neg l := by simp [ival, nv_tr]
theorem ival_sg (neg : Bool) (l : List Nat) : decide (ival neg l < 0) = sg neg l := by
  have h := tlen_zero_iff (b := W) (by decide) l
  cases neg
  · simp [ival, sg]
  · by_cases h0 : tlen l = 0
    · rw [sg_zero h0]; simp [ival, h.1 h0]
    · rw [sg_pos (by omega)]
      have : nv W l ≠ 0 := fun e => h0 (h.2 e)
      simp [ival]; omega
/-- an integer as limbs of the call's own, normal -/
def ResI (w : World) (B : Nat) (v : Value) (z : Int) : Prop :=
  ∃ A c, v = .agg #[.bool (decide (z < 0)), .slice A (digs W z.natAbs).length c] ∧ OwnU w B A (digs W z.natAbs).length c (u32s (digs W z.natAbs))
def PostI (w : World) (z : Int) (e : Ending) (w' : World) : Prop := ∃ v, e = .returned v ∧ ResI w' w.heap.size v z ∧ Below w.heap.size w w'
theorem ResI.below {w w' : World} {B : Nat} {v : Value} {z : Int} (h : ResI w B v z) {C : Nat} (hb : Below C w w') (hC : w.heap.size ≤ C) : ResI w' B v z := by
  obtain ⟨A, c, hv, ho⟩ := h
  exact ⟨A, c, hv, ho.below hb hC⟩
theorem ResI.mono {w : World} {B B' : Nat} {v : Value} {z : Int} (h : ResI w B v z) (hB : B' ≤ B) : ResI w B' v z := by
  obtain ⟨A, c, hv, ho⟩ := h
  exact ⟨A, c, hv, ho.mono hB⟩
theorem ResI.zero (w : World) (B : Nat) : ResI w B (.agg #[.bool false, .slice none 0 0]) 0 :=
  ⟨none, 0, by simp [digs_zero], by simp [digs_zero, u32s, Own, World.ownsRow_nil]⟩
/-- what laid hands back of limbs of the call's own -/
theorem ResI.of_own {w w' : World} {B : Nat} {A : Option Addr} {l : List Nat} {n c : Nat} (neg : Bool) (h : OwnU w B A n c (u32s l)) (hl : l.length = n) (hd : Dig W l) (hb : Below w.heap.size w w') :
    ResI w' B (.agg #[.bool (sg neg l), .slice A (tlen l) c]) (ival neg l) := by
  have ht : tlen l ≤ n := by rw [← hl]; exact tlen_le l
  have e := tr_eq_digs (b := W) (by decide) hd
  have e2 : (digs W (nv W l)).length = tlen l := by rw [← e, tr_length]
  refine ⟨A, c, by rw [ival_sg, ival_natAbs, e2], ?_⟩
  rw [ival_natAbs, e2, ← e]
  have := (h.below hb (Nat.le_refl _)).take ht
  rwa [u32s_take] at this

theorem laid_own (neg : Bool) {B : Nat} {A : Option Addr} {l : List Nat} {n c : Nat} {w : World} (h : OwnU w B A n c (u32s l)) (hl : l.length = n) (hd : Dig W l) {z : Int} (hz : ival neg l = z) :
    Calls Try.prog 71 #[.bool neg, .slice A n c] w fun e w' => ∃ v, e = .returned v ∧ ResI w' B v z ∧ Below w.heap.size w w' :=
  (laid_any neg (h.sl hd hl) (Nat.le_refl _)).mono fun e w' ⟨he, hb⟩ => ⟨_, he, by rw [← hz]; exact ResI.of_own neg h hl hd hb, hb⟩

theorem two_cells {w0 w2 : World} {C g t : Nat} {x y : Value} (hb : Below C w0 w2) (h : w0.heap[g]? = some (.cells #[x, y] t (0, 0))) (hg : g < C) :
    w2.cell? ⟨g, 0, none⟩ = some x ∧ w2.cell? ⟨g, 1, none⟩ = some y ∧ w2.frozen? ⟨g, 0, none⟩ = false ∧ w2.frozen? ⟨g, 1, none⟩ = false := by
  have h2 := (hb.block g hg).trans h
  exact ⟨by rw [cell_of_row w2 g 0 _ t (0, 0) h2]; rfl, by rw [cell_of_row w2 g 1 _ t (0, 0) h2]; rfl, by simp [World.frozen?, h2], by simp [World.frozen?, h2]⟩
theorem heap_second (w : World) (a b : Obj) : ((w.alloc a).alloc b).heap[w.heap.size + 1]? = some b := by
  have := heap_alloc_new (w.alloc a) b
  simpa using this
theorem heap_third (w : World) (a b c : Obj) : (((w.alloc a).alloc b).alloc c).heap[w.heap.size + 2]? = some c := by
  have := heap_alloc_new ((w.alloc a).alloc b) c
  simpa using this
/-- behind the store of a struct of two cells into the call's own variable g -/
theorem ResI.stored {w w2 : World} {base g : Nat} {v u u' : Value} {z : Int} (hr : ResI w2 base v z) (hb : Below w.heap.size w w2) (hg : g < base) (hwg : w.heap.size ≤ g) :
    ResI ((w2.setCell ⟨g, 0, none⟩ u).setCell ⟨g, 1, none⟩ u') w.heap.size v z ∧ Below w.heap.size w ((w2.setCell ⟨g, 0, none⟩ u).setCell ⟨g, 1, none⟩ u') := by
  refine ⟨?_, (hb.setCell (by simpa using hwg) _).setCell (by simpa using hwg) _⟩
  obtain ⟨A, c, hv, ho⟩ := hr
  refine ⟨A, c, hv, ((ho.mono (B' := w.heap.size) (by omega)).far ?_ _).far ?_ _⟩
  all_goals
    intro g' hA
    rcases ho.form with ⟨h1, _⟩ | ⟨g2, h1, h2, _⟩
    · rw [h1] at hA; cases hA
    · rw [h1] at hA
      injection hA with hA
      injection hA with hA
      simp; omega
theorem keepS {w1 w2 : World} {C g : Nat} {u v : Value} (hb : Below C w1 w2) (hg : g < C) (h : w1.cell? ⟨g, 0, none⟩ = some u ∧ w1.cell? ⟨g, 1, none⟩ = some v) :
    w2.cell? ⟨g, 0, none⟩ = some u ∧ w2.cell? ⟨g, 1, none⟩ = some v :=
  ⟨(hb.cell (p := ⟨g, 0, none⟩) hg).trans h.1, (hb.cell (p := ⟨g, 1, none⟩) hg).trans h.2⟩
attribute [local go_sem ↓] Go.wp_at_zero Go.wp_at_succ
set_option maxHeartbeats 400000 in
theorem norm_any (neg : Bool) {B : Nat} {A : Option Addr} {l : List Nat} {n c : Nat} {w : World} (hs : SlU w B A n c l) (hn : n ≤ 67108864) (hB : B ≤ w.heap.size) :
    Calls Try.prog 34 #[.agg #[.bool neg, .slice A n c]] w (PostI w (ival neg l)) := by
  have ht := tlen_le l
  have hlen := hs.len
  have HI := Lib.hid (fun w1 (hb : Below w.heap.size w w1) => trim_any (hs.below (C := w.heap.size) hb hB))
  have HO := Lib.hid (fun w1 (hb : Below w.heap.size w w1) => own_any ((hs.tr).below (C := w.heap.size) hb hB) (by omega) (Nat.le_trans hB hb.size))
  have HB := Lib.hid (Below.refl w.heap.size w)
  have HD := Lib.hid hs.dig
  clear hs hB ht hlen hn
  go_enter Try.func34, Try.ntmps34
  go_wp2_with fail
  go_region_held3 (fun w' => w'.cell? ⟨w.heap.size, 0, none⟩ = some (.bool neg) ∧ w'.cell? ⟨w.heap.size, 1, none⟩ = some (.slice A n c))
    (first | go_keep | exact keepS hb2 (by first | omega | (simp; omega)) (by assumption) | exact keepS hb1 (by first | omega | (simp; omega)) (by assumption))
    (first
      | (go_at_call 80; refine (HI.out _ ?_).mono ?_; (refine (Below.drew ?_); exact ((HB.out.alloc (Nat.le_refl _) _).alloc (by simp) _)); rintro e w' ⟨rfl, rfl⟩)
      | (go_at_call 79; refine (HO.out _ ?_).mono ?_; (refine (Below.drew ?_); exact ((HB.out.alloc (Nat.le_refl _) _).alloc (by simp) _)); rintro e w1 ⟨A1, n1, c1, rfl, ho1, hl1, hb1⟩; have hz1 := hb1.size; simp at hz1)
      | (go_at_call 71; refine (laid_own neg ho1 hl1 HD.out.tr (ival_tr neg l)).mono ?_; rintro e w2 ⟨v, rfl, ⟨A2, c2, rfl, ho2⟩, hb2⟩; have hb3 := hb1.trans (hb2.mono hb1.size); obtain ⟨r0, r1, r2, r3⟩ := two_cells hb3 (heap_second w _ _) (by first | omega | (simp; omega) | simp)))
  go_wp2
  have hr := ResI.stored (w := w) (g := w.heap.size + 1) (u := .bool (decide (ival neg l < 0))) (u' := .slice A2 (digs W (ival neg l).natAbs).length c2) ⟨A2, c2, rfl, ho2⟩ ((((((Below.refl _ _).alloc (Nat.le_refl _) _).alloc (by simp) _).drew).trans (hb3.mono (B' := w.heap.size) (by simp; omega))) : Below w.heap.size w w2) (by simp) (by omega)
  exact bodyPost_ret (v := .agg #[.bool (decide (ival neg l < 0)), .slice A2 (digs W (ival neg l).natAbs).length c2]) (by simp [results, Try.results34, go_sem, r0, r1]) rfl ⟨_, rfl, hr.1, hr.2⟩
set_option maxHeartbeats 400000 in
theorem neg_any (neg : Bool) {B : Nat} {A : Option Addr} {l : List Nat} {n c : Nat} {w : World} (hs : SlU w B A n c l) (hn : n ≤ 67108864) (hB : B ≤ w.heap.size) :
    Calls Try.prog 36 #[.agg #[.bool neg, .slice A n c]] w (PostI w (ival (!neg) l)) := by
  have ht := tlen_le l
  have hlen := hs.len
  have HI := Lib.hid (fun w1 (hb : Below w.heap.size w w1) => trim_any (hs.below (C := w.heap.size) hb hB))
  have HO := Lib.hid (fun w1 (hb : Below w.heap.size w w1) => own_any ((hs.tr).below (C := w.heap.size) hb hB) (by omega) (Nat.le_trans hB hb.size))
  have HB := Lib.hid (Below.refl w.heap.size w)
  have HD := Lib.hid hs.dig
  clear hs hB ht hlen hn
  go_enter Try.func36, Try.ntmps36
  go_wp2_with fail
  go_region_held3 (fun w' => w'.cell? ⟨w.heap.size, 0, none⟩ = some (.bool neg) ∧ w'.cell? ⟨w.heap.size, 1, none⟩ = some (.slice A n c))
    (first | go_keep | exact keepS hb2 (by first | omega | (simp; omega)) (by assumption) | exact keepS hb1 (by first | omega | (simp; omega)) (by assumption))
    (first
      | (go_at_call 80; refine (HI.out _ ?_).mono ?_; (refine (Below.drew ?_); exact ((HB.out.alloc (Nat.le_refl _) _).alloc (by simp) _)); rintro e w' ⟨rfl, rfl⟩)
      | (go_at_call 79; refine (HO.out _ ?_).mono ?_; (refine (Below.drew ?_); exact ((HB.out.alloc (Nat.le_refl _) _).alloc (by simp) _)); rintro e w1 ⟨A1, n1, c1, rfl, ho1, hl1, hb1⟩; have hz1 := hb1.size; simp at hz1)
      | (go_at_call 71; refine (laid_own (!neg) ho1 hl1 HD.out.tr (ival_tr (!neg) l)).mono ?_; rintro e w2 ⟨v, rfl, ⟨A2, c2, rfl, ho2⟩, hb2⟩; have hb3 := hb1.trans (hb2.mono hb1.size); obtain ⟨r0, r1, r2, r3⟩ := two_cells hb3 (heap_second w _ _) (by first | omega | (simp; omega) | simp)))
  go_wp2
  have hr := ResI.stored (w := w) (g := w.heap.size + 1) (u := .bool (decide (ival (!neg) l < 0))) (u' := .slice A2 (digs W (ival (!neg) l).natAbs).length c2) ⟨A2, c2, rfl, ho2⟩ ((((((Below.refl _ _).alloc (Nat.le_refl _) _).alloc (by simp) _).drew).trans (hb3.mono (B' := w.heap.size) (by simp; omega))) : Below w.heap.size w w2) (by simp) (by omega)
  exact bodyPost_ret (v := .agg #[.bool (decide (ival (!neg) l < 0)), .slice A2 (digs W (ival (!neg) l).natAbs).length c2]) (by simp [results, Try.results36, go_sem, r0, r1]) rfl ⟨_, rfl, hr.1, hr.2⟩
end Go.Proofs.Ytggdmhkdmkldoaa
