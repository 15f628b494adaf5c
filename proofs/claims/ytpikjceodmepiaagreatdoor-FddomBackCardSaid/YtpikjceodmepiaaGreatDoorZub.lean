import Derived.Test.YtpikjceodmepiaaGreatDoorZtb
import Derived.Test.YtpikjceodmepiaaGreatDoorAvb
set_option linter.unusedVariables false
set_option linter.unusedSimpArgs false
namespace Go.Proofs.YtpikjceodmepiaaGreatDoor
open Go.RowKit Hb Hf
set_option linter.unusedVariables false
set_option linter.unusedSimpArgs false
attribute [local go_sem ↓] Go.wp_at_zero Go.wp_at_succ
/-! ### Parts -/
theorem tl_len {z : Int} {m : Nat} (h : (digs W z.natAbs).length ≤ m) (hm : m ≤ 128) : tooLong z = false := decide_eq_false (short_of (lt_of_digs_length (b := W) (by decide) h) hm)
theorem len_dv {x z : Int} {m : Nat} (h : (digs W x.natAbs).length ≤ m) (hz : z ≠ 0) : (digs W (dvD x z).natAbs).length ≤ m :=
  digs_length_le (by decide) (Nat.lt_of_le_of_lt (dvD_abs hz) (lt_of_digs_length (b := W) (by decide) h))
theorem cut_dv {x z : Int} (hz : z ≠ 0) : Cut z x (dvD x z) (dvM x z) := by
  have h1 := dm_sum x z
  have h2 := m_abs (x := x) hz
  refine ⟨by omega, ?_⟩
  by_cases h0 : dvM x z = 0
  · rcases (by omega : z < 0 ∨ 0 < z) with h | h
    · exact .inr (by omega)
    · exact .inl (by omega)
  · have h3 := m_sign hz h0
    rcases (by omega : z < 0 ∨ 0 < z) with h | h
    · rw [Int.sign_eq_neg_one_of_neg h] at h3
      have := Int.neg_of_sign_eq_neg_one h3
      exact .inr (by omega)
    · rw [Int.sign_eq_one_of_pos h] at h3
      have := Int.pos_of_sign_eq_one h3
      exact .inl (by omega)
abbrev upD (z : Int) (e : Ed) : Ed := upE z (fun x => dvD x z) (fun x => dvM x z) e
abbrev dnD (z : Int) (e : Ed) : Ed := downE z (fun x => dvD x z) e
abbrev paD (z : Int) (r : R) : R := paR z (fun x => dvD x z) (fun x => dvM x z) r
theorem szE_dn {e : Ed} {z : Int} {m : Nat} (h : szE e ≤ m) (hz : z ≠ 0) : szE (dnD z e) ≤ m := by
  cases e with
  | num x => exact len_dv h hz
  | lo => simp only [dnD, downE]; split <;> simp [szE]
  | hi => simp only [dnD, downE]; split <;> simp [szE]
theorem szE_up {e : Ed} {z : Int} {m : Nat} (h : szE e ≤ m) (hz : z ≠ 0) : szE (upD z e) ≤ m + 1 := by
  cases e with
  | num x =>
    have h1 := len_dv (x := x) h hz
    simp only [upD, upE]
    split
    · exact digs_step h1 (.inl rfl)
    · exact Nat.le_succ_of_le h1
  | lo => simp only [upD, upE]; split <;> simp [szE]
  | hi => simp only [upD, upE]; split <;> simp [szE]
def DmPost (w : World) (z1 z2 : Int) (e : Ending) (w' : World) : Prop :=
  ∃ A1 c1 A2 c2, e = .returned (.tuple #[.agg #[.bool (decide (z1 < 0)), .slice A1 (digs W z1.natAbs).length c1], .agg #[.bool (decide (z2 < 0)), .slice A2 (digs W z2.natAbs).length c2], .int .i64 0]) ∧
    (nb z1 A1 c1).At w' (Fr w.heap.size w') ∧ (nb z2 A2 c2).At w' (Fr w.heap.size w') ∧ Below w.heap.size w w'
theorem dm_ok {w : World} {P : Nat → Prop} {bg g : Bool} {bA A' : Option Addr} {bn bc n' c' : Nat} {bl l : List Nat} {x z : Int} (hb : LimP w P bA bn bc bl) (hl : LimP w P A' n' c' l) (hP : ∀ b, P b → b < w.heap.size) (hn : bn ≤ 128) (hn' : n' ≤ 128) (hx : ival bg bl = x) (hz : ival g l = z) (hz0 : z ≠ 0) :
    Calls Tryz.prog 63 #[.agg #[.bool bg, .slice bA bn bc], .agg #[.bool g, .slice A' n' c']] w (DmPost w (dvD x z) (dvM x z)) := by
  have lx := ival_len hb.dig hb.len hx
  have lz := ival_len hl.dig hl.len hz
  refine (DivMod_z (hb.sl hP) (hl.sl hP) (by omega) (by omega) hx hz hz0 rfl rfl (tl_len lx hn) (tl_len lz hn') (tl_len (len_dv lx hz0) hn)).mono fun e w' ⟨v1, v2, he, h1, h2, hb2⟩ => ?_
  obtain ⟨A1, c1, rfl, a1⟩ := h1.nb
  obtain ⟨A2, c2, rfl, a2⟩ := h2.nb
  exact ⟨A1, c1, A2, c2, he, a1, a2, hb2⟩
theorem EBox.set0 {w : World} {g : Nat} {b : Bd} (h : EBox w g b) (q : Int) : EBox (w.setCell ⟨g, 0, none⟩ (.int .i64 q)) g ⟨q, b.g, b.A, b.n, b.c, b.l⟩ ∧ w.grownBy (w.setCell ⟨g, 0, none⟩ (.int .i64 q)) (some g) := by
  refine ⟨?_, gb_setCell (gb_refl _ _) _ _⟩
  unfold EBox at h ⊢
  simp [World.setCell, Array.getElem?_modify, h, Bd.vals]
/-- an end beyond all, turned -/
theorem inf_turn {b : Bd} {w w' : World} {P Q : Nat → Prop} {z sg : Int} (hb : b.At w P) (hN : b.Nrm) (h0 : b.i ≠ 0) (hsg : (0 < z ∧ sg = 1) ∨ (z < 0 ∧ sg = -1)) :
    ∃ q, IntKind.i64.wrap (b.i * sg) = q ∧ (⟨q, b.g, b.A, b.n, b.c, b.l⟩ : Bd).At w' Q ∧ (⟨q, b.g, b.A, b.n, b.c, b.l⟩ : Bd).Nrm ∧ (⟨q, b.g, b.A, b.n, b.c, b.l⟩ : Bd).ed = upD z b.ed ∧ (⟨q, b.g, b.A, b.n, b.c, b.l⟩ : Bd).ed = dnD z b.ed := by
  obtain ⟨ht, ho, hd⟩ := hN
  obtain ⟨h1, h2⟩ := ho h0
  obtain ⟨bi, bg, bA, bn, bc, bl⟩ := b
  simp only at h0 h1 h2 hb
  subst h1 h2
  have hq : (bi * sg = -1 ∨ bi * sg = 1) ∧ (bi = -1 ∨ bi = 1) := by
    unfold Bd.Tri at ht
    simp only at ht
    rcases hsg with ⟨_, h⟩ | ⟨_, h⟩ <;> subst h <;> omega
  have hw : IntKind.i64.wrap (bi * sg) = bi * sg := by rcases hq.1 with h | h <;> rw [h] <;> rfl
  refine ⟨bi * sg, hw, ⟨⟨hb.lim.len, hb.lim.cap, hb.lim.max, hb.lim.dig, fun e => absurd rfl e⟩, by show (-9223372036854775808 : Int) ≤ bi * sg; omega, by show bi * sg ≤ 9223372036854775807; omega⟩, ⟨by unfold Bd.Tri; simp only; omega, fun _ => ⟨rfl, rfl⟩, by simp [Bd.z, ival, nv, digs_zero]⟩, ?_, ?_⟩
  all_goals
    rcases hsg with ⟨hn1, h⟩ | ⟨hn1, h⟩ <;> rcases hq.2 with h2 | h2 <;> subst h <;> subst h2 <;> simp [Bd.ed, upD, dnD, upE, downE, hn1, show ¬ (0 < z ∧ z < 0) by omega] <;> omega
theorem wrap_same {b : Bd} {q z sg d : Int} (h1 : IntKind.i64.wrap d = q) (hd : b.i * sg = d) (hN : b.Nrm) (h0 : b.i ≠ 0) (hsg : (0 < z ∧ sg = 1) ∨ (z < 0 ∧ sg = -1)) : q = d := by
  have ht := hN.tri
  unfold Bd.Tri at ht
  have hq : d = -1 ∨ d = 1 := by
    rw [← hd]
    rcases hsg with ⟨_, h⟩ | ⟨_, h⟩ <;> subst h <;> omega
  rw [← h1]
  rcases hq with h | h <;> rw [h] <;> rfl
def PartsPost (w : World) (L : List R) (z : Int) (K M : Nat) (e : Ending) (w' : World) : Prop :=
  ∃ A m c qs, e = .returned (.tuple #[.slice A m c, .int .i64 0]) ∧ SOut w' w.heap.size A m c qs K M ∧ (∀ k, Hf.mem k (qs.map edsR) ↔ Hf.mem (k * z) L) ∧ Below w.heap.size w w'
/-- two boxes that were made in any order -/
structure TwoB (w5 : World) (a b : Bd) (u : World) (U D : Nat) : Prop where
  bel : Below w5.heap.size w5 u
  ub : EBox u U a
  db : EBox u D b
  ne : U ≠ D
  ul : w5.heap.size ≤ U
  dl : w5.heap.size ≤ D
theorem merge3 {G : Prop} {F gp : World → Nat → Nat → Prop} (main : (∀ u H Bx, F u H Bx → gp u H Bx) → G) (key : ∀ u H Bx, F u H Bx → gp u H Bx) : G := main key
theorem TwoB.setU {w5 u : World} {a b : Bd} {U D : Nat} (h : TwoB w5 a b u U D) (d : Bd) : TwoB w5 d b (((u.setCell ⟨U, 0, none⟩ (.int .i64 d.i)).setCell ⟨U, 1, none⟩ (.bool d.g)).setCell ⟨U, 2, none⟩ (.slice d.A d.n d.c)) U D ∧ u.grownBy (((u.setCell ⟨U, 0, none⟩ (.int .i64 d.i)).setCell ⟨U, 1, none⟩ (.bool d.g)).setCell ⟨U, 2, none⟩ (.slice d.A d.n d.c)) (some U) := by
  obtain ⟨h1, h2⟩ := h.ub.set3 d
  exact ⟨⟨h.bel.grown h2 h.bel.size (fun j e => by injection e with e; have := h.ul; omega), h1, h.db.gro h2 (fun e => h.ne e.symm), h.ne, h.ul, h.dl⟩, h2⟩
theorem TwoB.setD {w5 u : World} {a b : Bd} {U D : Nat} (h : TwoB w5 a b u U D) (d : Bd) : TwoB w5 a d (((u.setCell ⟨D, 0, none⟩ (.int .i64 d.i)).setCell ⟨D, 1, none⟩ (.bool d.g)).setCell ⟨D, 2, none⟩ (.slice d.A d.n d.c)) U D ∧ u.grownBy (((u.setCell ⟨D, 0, none⟩ (.int .i64 d.i)).setCell ⟨D, 1, none⟩ (.bool d.g)).setCell ⟨D, 2, none⟩ (.slice d.A d.n d.c)) (some D) := by
  obtain ⟨h1, h2⟩ := h.db.set3 d
  exact ⟨⟨h.bel.grown h2 h.bel.size (fun j e => by injection e with e; have := h.dl; omega), h.ub.gro h2 h.ne, h1, h.ne, h.ul, h.dl⟩, h2⟩
theorem TwoB.u0 {w5 u : World} {a b : Bd} {U D : Nat} (h : TwoB w5 a b u U D) (q : Int) : TwoB w5 ⟨q, a.g, a.A, a.n, a.c, a.l⟩ b (u.setCell ⟨U, 0, none⟩ (.int .i64 q)) U D ∧ u.grownBy (u.setCell ⟨U, 0, none⟩ (.int .i64 q)) (some U) := by
  obtain ⟨h1, h2⟩ := h.ub.set0 q
  exact ⟨⟨h.bel.grown h2 h.bel.size (fun j e => by injection e with e; have := h.ul; omega), h1, h.db.gro h2 (fun e => h.ne e.symm), h.ne, h.ul, h.dl⟩, h2⟩
theorem TwoB.d0 {w5 u : World} {a b : Bd} {U D : Nat} (h : TwoB w5 a b u U D) (q : Int) : TwoB w5 a ⟨q, b.g, b.A, b.n, b.c, b.l⟩ (u.setCell ⟨D, 0, none⟩ (.int .i64 q)) U D ∧ u.grownBy (u.setCell ⟨D, 0, none⟩ (.int .i64 q)) (some D) := by
  obtain ⟨h1, h2⟩ := h.db.set0 q
  exact ⟨⟨h.bel.grown h2 h.bel.size (fun j e => by injection e with e; have := h.dl; omega), h.ub.gro h2 h.ne, h1, h.ne, h.ul, h.dl⟩, h2⟩
theorem TwoB.u2 {w5 u : World} {a b : Bd} {U D : Nat} (h : TwoB w5 a b u U D) (x : Bool) (A : Option Addr) (n c : Nat) (l : List Nat) : TwoB w5 ⟨a.i, x, A, n, c, l⟩ b ((u.setCell ⟨U, 1, none⟩ (.bool x)).setCell ⟨U, 2, none⟩ (.slice A n c)) U D ∧ u.grownBy ((u.setCell ⟨U, 1, none⟩ (.bool x)).setCell ⟨U, 2, none⟩ (.slice A n c)) (some U) := by
  obtain ⟨h1, h2⟩ := h.ub.set2 x A n c l
  exact ⟨⟨h.bel.grown h2 h.bel.size (fun j e => by injection e with e; have := h.ul; omega), h1, h.db.gro h2 (fun e => h.ne e.symm), h.ne, h.ul, h.dl⟩, h2⟩
theorem TwoB.d2 {w5 u : World} {a b : Bd} {U D : Nat} (h : TwoB w5 a b u U D) (x : Bool) (A : Option Addr) (n c : Nat) (l : List Nat) : TwoB w5 a ⟨b.i, x, A, n, c, l⟩ ((u.setCell ⟨D, 1, none⟩ (.bool x)).setCell ⟨D, 2, none⟩ (.slice A n c)) U D ∧ u.grownBy ((u.setCell ⟨D, 1, none⟩ (.bool x)).setCell ⟨D, 2, none⟩ (.slice A n c)) (some D) := by
  obtain ⟨h1, h2⟩ := h.db.set2 x A n c l
  exact ⟨⟨h.bel.grown h2 h.bel.size (fun j e => by injection e with e; have := h.dl; omega), h.ub.gro h2 h.ne, h1, h.ne, h.ul, h.dl⟩, h2⟩
theorem TwoB.below {w5 u u' : World} {a b : Bd} {U D : Nat} (h : TwoB w5 a b u U D) (hb : Below u.heap.size u u') : TwoB w5 a b u' U D := ⟨h.bel.trans (hb.mono h.bel.size), h.ub.below hb, h.db.below hb, h.ne, h.ul, h.dl⟩
/-- an end that was made lies elsewhere than what was written over -/
theorem Bd.At.gro {w w' : World} {b : Bd} {lo N : Nat} (h : b.At w (fun x => lo ≤ x ∧ x < w.heap.size ∧ x ≠ N)) (hg : w.grownBy w' (some N)) : b.At w' (fun x => lo ≤ x ∧ x < w'.heap.size ∧ x ≠ N) :=
  h.keep fun x hx => ⟨⟨hx.1, Nat.lt_of_lt_of_le hx.2.1 hg.size, hx.2.2⟩, hg.block x hx.2.1 (fun e => by injection e with e; exact hx.2.2 e)⟩
/-- made behind two boxes -/
abbrev Bh (lo U D : Nat) (u : World) : Nat → Prop := fun x => (lo ≤ x ∧ x < u.heap.size) ∧ x ≠ U ∧ x ≠ D
theorem Bd.At.bh {w w' : World} {b : Bd} {lo U D : Nat} (h : b.At w (Bh lo U D w)) (hb : Below w.heap.size w w') : b.At w' (Bh lo U D w') :=
  h.keep fun x hx => ⟨⟨⟨hx.1.1, Nat.lt_of_lt_of_le hx.1.2 hb.size⟩, hx.2⟩, hb.block x hx.1.2⟩
theorem Bd.At.bhU {w w' : World} {b : Bd} {lo U D : Nat} (h : b.At w (Bh lo U D w)) (hg : w.grownBy w' (some U)) : b.At w' (Bh lo U D w') :=
  h.keep fun x hx => ⟨⟨⟨hx.1.1, Nat.lt_of_lt_of_le hx.1.2 hg.size⟩, hx.2⟩, hg.block x hx.1.2 (fun e => by injection e with e; exact hx.2.1 e)⟩
theorem Bd.At.bhD {w w' : World} {b : Bd} {lo U D : Nat} (h : b.At w (Bh lo U D w)) (hg : w.grownBy w' (some D)) : b.At w' (Bh lo U D w') :=
  h.keep fun x hx => ⟨⟨⟨hx.1.1, Nat.lt_of_lt_of_le hx.1.2 hg.size⟩, hx.2⟩, hg.block x hx.1.2 (fun e => by injection e with e; exact hx.2.2 e)⟩
theorem Bd.At.toBh {w w' : World} {b : Bd} {lo U D : Nat} (h : b.At w' (Fr w.heap.size w')) (hl : lo ≤ w.heap.size) (hU : U < w.heap.size) (hD : D < w.heap.size) : b.At w' (Bh lo U D w') :=
  h.wide fun x hx => ⟨⟨Nat.le_trans hl hx.1, hx.2⟩, by have := hx.1; omega, by have := hx.1; omega⟩
/-- the loop's head -/
structure PH (w2 : World) (z : Int) (qs : List Rg) (k : Nat) (A3 : Option Addr) (c3 : Nat) (rs : List Rg) (wr : World) : Prop where
  bel : Below w2.heap.size w2 wr
  row : RRow wr w2.heap.size (Fr w2.heap.size wr) A3 k c3 rs
  gd : ∀ q ∈ rs, Gd q
  eds : rs.map edsR = ((qs.take k).map edsR).map (paD z)
theorem eds_add {rs qs : List Rg} {k : Nat} {p q : Rg} {f : R → R} (h : rs.map edsR = ((qs.take k).map edsR).map f) (hp : qs[k]? = some p) (hq : edsR q = f (edsR p)) : (rs ++ [q]).map edsR = ((qs.take (k + 1)).map edsR).map f := by
  rw [List.map_append, h, List.take_add_one, hp]
  simp [hq]
set_option maxRecDepth 100000 in
set_option maxHeartbeats 16000000 in
theorem Parts_ok {w : World} {P : Nat → Prop} {A A' : Option Addr} {n c n' c' K M : Nat} {g : Bool} {l : List Nat} {ps : List Rg} {z : Int} (h : SIn w P A n c ps K M) (hl : LimP w P A' n' c' l) (hP : ∀ b, P b → b < w.heap.size) (hK : K ≤ 1000) (hM : M + 1 ≤ 128) (hnM : n' ≤ 128) (hz : ival g l = z) (hz0 : z ≠ 0) :
    Calls Tryz.prog 23 #[.slice A n c, .agg #[.bool g, .slice A' n' c']] w (PartsPost w (ps.map edsR) z K (M + 1)) := by
  obtain ⟨B, hB⟩ : ∃ B, w.heap.size = B := ⟨_, rfl⟩
  have HB := Lib.hid hB
  have HT := Lib.hid (V3_take (g := g) h hl hnM hP hK (by omega))
  have HKM := Lib.hid (And.intro hK (And.intro hM hnM))
  have HP := Lib.hid hP
  have HL := Lib.hid hl
  have HV := Lib.hid hz
  have HZ0 := Lib.hid hz0
  obtain ⟨sg, hsg⟩ : ∃ sg, z.sign = sg := ⟨_, rfl⟩
  have HZ := Lib.hid (show (0 < z ∧ sg = 1) ∨ (z < 0 ∧ sg = -1) from by
    rw [← hsg]
    rcases Int.lt_trichotomy z 0 with h | h | h
    · exact .inr ⟨h, Int.sign_eq_neg_one_of_neg h⟩
    · exact absurd h hz0
    · exact .inl ⟨h, Int.sign_eq_one_of_pos h⟩)
  have hsgn : (sg == 0) = false := beq_eq_false_iff_ne.2 (by rcases HZ.out with h | h <;> omega)
  have HSg := Lib.hid (fun w1 (hb : Below B w w1) => show Calls Tryz.prog 21 #[.agg #[.bool g, .slice A' n' c']] w1 (fun e w' => e = .returned (.int .i64 sg) ∧ Gr w1 w') from by
    have hx := sign_gr g (w := w1) (B := w.heap.size) ((hl.sl hP).below (C := w.heap.size) (by rw [hB]; exact hb) (Nat.le_refl _)) (by rw [hB]; have := hb.size; omega)
    rw [hz, hsg] at hx
    exact hx)
  unfold PartsPost
  rw [hB]
  unfold V3 at HT
  rw [hB] at HT
  clear h hl hP hK hM hnM hB hz hsg hz0
  go_enter Tryz.func23, Tryz.ntmps23
  go_wp2_with fail
  rw [HB.out]
  (with_reducible refine HT.out.mono ?_)
  rintro e w1 ⟨rfl, hb1, hz1, hi1, A1, n1, c1, qs, hv1, ho1, hm1⟩
  have HB1 := Lib.hid hb1
  have HZ1 := Lib.hid hz1
  have HI1 := Lib.hid hi1
  have HV1 := Lib.hid hv1
  have HO1 := Lib.hid ho1
  have HM1 := Lib.hid hm1
  obtain ⟨v0, _⟩ := hv1.cell
  obtain ⟨i0, i1⟩ := hi1.cells
  clear hb1 hz1 hi1 hv1 ho1 hm1 HT
  go_wp2_with (go_at_call 21; (with_reducible refine (HSg.out _ HB1.out).mono ?_); rintro e w2 ⟨rfl, hg2⟩; have HG2 := Lib.hid hg2; have HV2 := Lib.hid (show VBox w2 B A1 n1 c1 from (hg2.bel.block B (by have := HZ1.out; omega)).trans HV1.out); have v2 := HV2.out.cell.1; clear v0 i0 i1)
  have HBe := Lib.hid (HB1.out.trans (HG2.out.bel.mono (by have := HZ1.out; omega)))
  have HI2 := Lib.hid (HI1.out.below HG2.out.bel)
  have HS2 := Lib.hid ((HO1.out.below HG2.out.bel).set)
  have HGo := Lib.hid HO1.out.gd
  have HG4 := Lib.hid (show B + 4 ≤ w2.heap.size from by have := HZ1.out; have := HG2.out.bel.size; omega)
  have HLq := Lib.hid (show qs.length = n1 ∧ n1 ≤ K ∧ n1 ≤ 1000 from ⟨HO1.out.row.len, HO1.out.len, Nat.le_trans HO1.out.len HKM.out.1⟩)
  have hn9 : n1 ≤ 1000 := HLq.out.2.2
  have HNf := Lib.hid (And.intro HO1.out.nf (And.intro HO1.out.bnd HM1.out))
  have HSC := Lib.hid (show PH w2 z qs 0 none 0 [] w2 from ⟨Below.refl _ _, RRow.nil _ _ _, by simp, by simp⟩)
  have HL2 := Lib.hid (show LimP w2 (fun x => x < w2.heap.size) A' n' c' l from HL.out.keep (fun b hb => ⟨by have := HP.out b hb; have := HBe.out.size; omega, HBe.out.block b (by have := HP.out b hb; have := HB.out; omega)⟩))
  clear HB1 HV1 HV2 HI1 HM1 HG2 HSg HZ1 v2 HO1 HL HP
  go_loopw [10, 39] (fun vo vi wr => ∃ k A3 c3 rs, k ≤ n1 ∧ vi = .int .i64 (k : Nat) ∧ vo = .slice A3 k c3 ∧ Hid (PH w2 z qs k A3 c3 rs wr)) (fun _ vi _ => n1 - (intOf vi).toNat)
  case atStart => exact ⟨0, none, 0, [], Nat.zero_le _, rfl, rfl, HSC⟩
  case round =>
    obtain ⟨k, A3, c3, rs, hk, rfl, rfl, HI⟩ := hrel
    clear HSC
    by_cases hkn : k < n1
    · obtain ⟨p, hp⟩ : ∃ p, qs[k]? = some p := ⟨qs[k]'(by have := HLq.out.1; omega), by simp⟩
      obtain ⟨b, o, rfl, hPb, q0, q1, q2, q3, q4, q5⟩ := HS2.out.row.at_ hp
      have HPq := Lib.hid hp
      have hpm := List.mem_of_getElem? hp
      have HGd := Lib.hid (HGo.out p hpm)
      have HKp := Lib.hid (show Rg.At w2 (fun x => x < w2.heap.size) p from (HS2.out.kid p hpm).keep (fun x hx => ⟨hx.2, rfl⟩))
      have hbc : ∀ j u, w2.cell? ⟨b, j, none⟩ = some u → wr.cell? ⟨b, j, none⟩ = some u := fun j u h => (HI.out.bel.cell (p := ⟨b, j, none⟩) hPb.2).trans h
      have i0 := hbc _ _ q0
      have i1 := hbc _ _ q1
      have i2 := hbc _ _ q2
      have i3 := hbc _ _ q3
      have i4 := hbc _ _ q4
      have i5 := hbc _ _ q5
      have hX := RBox.new wr p
      have HBx := Lib.hid (show Below wr.heap.size wr (wr.alloc (.cells (cells6 p).toArray 69)) from (Below.refl _ _).alloc (Nat.le_refl _) _)
      obtain ⟨⟨p1i, p1g, p1A, p1n, p1c, p1l⟩, ⟨p2i, p2g, p2A, p2n, p2c, p2l⟩⟩ := p
      have HX := Lib.hid hX
      simp only [cells6_eq] at HX HBx
      simp only at i0 i1 i2 i3 i4 i5
      have hki : (k : Int) < (n1 : Int) := by omega
      have hk0 : (0 : Int) ≤ (k : Int) := by omega
      have HM1 := Lib.hid (show p1n ≤ M ∧ p2n ≤ M from by
        have h1 := HNf.out.2.1 _ (List.mem_map.2 ⟨_, hpm, rfl⟩)
        have h2 := HGd.out.1.1.szE HKp.out.a.lim.len
        have h3 := HGd.out.1.2.szE HKp.out.b.lim.len
        simp only at h2 h3
        rw [h2, h3]
        exact h1)
      have HSz := Lib.hid (HNf.out.2.1 _ (List.mem_map.2 ⟨_, hpm, rfl⟩))
      have hw2 := HI.out.bel.size
      clear q0 q1 q2 q3 q4 q5 hp hpm hX hbc hPb
      go_upto_region 14 with fail
      clear i0 i1 i2 i3 i4 i5
      have hXl := HX.out.lt
      generalize (wr.alloc (.cells #[.int .i64 p1i, .bool p1g, .slice p1A p1n p1c, .int .i64 p2i, .bool p2g, .slice p2A p2n p2c] 69)) = w5 at *
      obtain ⟨x0, x1, x2, x3, x4, x5⟩ := HX.out.cells
      obtain ⟨f0, f1, f2, f3, f4, f5⟩ := HX.out.frozens
      simp only at x0 x1 x2 x3 x4 x5
      rcases HZ.out with ⟨hzp, hs1⟩ | ⟨hzn, hs1⟩
      · have hsl : ¬ sg < 0 := by omega
        clear hs1
        go_upto_region 16 with fail
        obtain ⟨w6, hw6⟩ : ∃ w6, w5 = w6 := ⟨_, rfl⟩
        have HX6 := Lib.hid (show RBox w6 wr.heap.size ((⟨p1i, p1g, p1A, p1n, p1c, p1l⟩, ⟨p2i, p2g, p2A, p2n, p2c, p2l⟩) : Rg) ∧ Below wr.heap.size wr w6 from by rw [← hw6]; exact ⟨HX.out, HBx.out⟩)
        obtain ⟨ea, hea⟩ : ∃ x, Bd.ed ⟨p1i, p1g, p1A, p1n, p1c, p1l⟩ = x := ⟨_, rfl⟩
        obtain ⟨ee, hee⟩ : ∃ x, Bd.ed ⟨p2i, p2g, p2A, p2n, p2c, p2l⟩ = x := ⟨_, rfl⟩
        have HEa := Lib.hid hea
        have HEe := Lib.hid hee
        have HE6 := Lib.hid (show paD z (edsR ((⟨p1i, p1g, p1A, p1n, p1c, p1l⟩, ⟨p2i, p2g, p2A, p2n, p2c, p2l⟩) : Rg)) = (upD z ea, dnD z ee) from by unfold paD paR; rw [if_pos hzp, ← hea, ← hee]; rfl)
        have HK6 := Lib.hid (And.intro (And.intro HKp.out.a HKp.out.b) (And.intro HGd.out.1.1 HGd.out.1.2))
        have HS6 := Lib.hid (show (p1n ≤ M ∧ p2n ≤ M) ∧ szE ea ≤ M ∧ szE ee ≤ M from by rw [← hea, ← hee]; exact ⟨HM1.out, HSz.out⟩)
        obtain ⟨P0, hP0⟩ : ∃ P0 : Rg, (⟨p1i, p1g, p1A, p1n, p1c, p1l⟩, ⟨p2i, p2g, p2A, p2n, p2c, p2l⟩) = P0 := ⟨_, rfl⟩
        rw [hP0] at HE6 HPq
        clear hea hee hP0
        rw [hw6]
        clear hw6 x0 x1 x2 x3 x4 x5 f0 f1 f2 f3 f4 f5 HX HBx HKp HGd HM1 HSz hzp
        refine wp_region_U 7 (by kernel_rfl) (fun z9 K0 hs0 => ?_)
        refine tkW 0 (v := ?tv0_1) K0 rfl (by kernel_rfl) ?tq0_1 (by kernel_rfl) (fun z5 hS => ?ty0_1) ?_
        case ty0_1 => go_simp; rfl
        case tq0_1 => exact fun _ _ _ h => h
        refine tkW 1 (v := ?tv1_2) K0 rfl (by kernel_rfl) ?tq1_2 (by kernel_rfl) (fun z5 hS => ?ty1_2) ?_
        case ty1_2 => obtain ⟨x0, x1, x2, x3, x4, x5⟩ := (HX6.out.1.below hS).cells; simp only at x0 x1 x2 x3 x4 x5; go_simp; rfl
        case tq1_2 => exact fun _ _ _ h => h
        refine tkW 2 (v := ?tv2_3) K0 rfl (by kernel_rfl) ?tq2_3 (by kernel_rfl) (fun z5 hS => ?ty2_3) ?_
        case ty2_3 => go_simp; rfl
        case tq2_3 => exact fun _ _ _ h => h
        refine tkW 3 (v := ?tv3_4) K0 rfl (by kernel_rfl) ?tq3_4 (by kernel_rfl) (fun z5 hS => ?ty3_4) ?_
        case ty3_4 => obtain ⟨x0, x1, x2, x3, x4, x5⟩ := (HX6.out.1.below hS).cells; simp only at x0 x1 x2 x3 x4 x5; go_simp; rfl
        case tq3_4 => exact fun _ _ _ h => h
        clear hs0
        apply merge3 (F := fun u U D => Hid (TwoB w6 (ib 0) (ib 0) u U D))
        · intro key
          refine wpAnyW_two (i := 4) (i2 := 5) (by kernel_rfl) rfl rfl (fun K hK => ?_) (fun K hK => ?_)
          · go_simp
            have hb : Below z9.heap.size z9 (z9.alloc (.cells #[.int .i64 0, .bool false, .slice none 0 0] 67)) := (Below.refl _ _).alloc (Nat.le_refl _) _
            have HX1 := Lib.hid (show EBox (z9.alloc (.cells #[.int .i64 0, .bool false, .slice none 0 0] 67)) z9.heap.size (ib 0) from EBox.new z9 (ib 0))
            have KK := Lib.hid (K0.trans (hb.mono K0.size))
            have hU := K0.size
            clear hb
            refine hK.out _ _ (fun _ => KK.out) ?_
            generalize (z9.alloc (.cells #[.int .i64 0, .bool false, .slice none 0 0] 67)) = v9 at *
            generalize z9.heap.size = U at *
            refine wpAnyW_one (i := 5) (by kernel_rfl) rfl (fun K hK => ?_)
            go_simp
            have hb : Below v9.heap.size v9 (v9.alloc (.cells #[.int .i64 0, .bool false, .slice none 0 0] 67)) := (Below.refl _ _).alloc (Nat.le_refl _) _
            have HY1 := Lib.hid (show EBox (v9.alloc (.cells #[.int .i64 0, .bool false, .slice none 0 0] 67)) v9.heap.size (ib 0) from EBox.new v9 (ib 0))
            have HX2 := Lib.hid (HX1.out.below hb)
            have KK2 := Lib.hid (KK.out.trans (hb.mono KK.out.size))
            have hlt := HX1.out.lt
            have hDl := KK.out.size
            clear hb
            refine hK.out _ _ (fun _ => KK2.out) ?_
            generalize (v9.alloc (.cells #[.int .i64 0, .bool false, .slice none 0 0] 67)) = va at *
            generalize v9.heap.size = D at *
            exact key va U D (Lib.hid ⟨KK2.out, HX2.out, HY1.out, by omega, hU, hDl⟩)
          · go_simp
            have hb : Below z9.heap.size z9 (z9.alloc (.cells #[.int .i64 0, .bool false, .slice none 0 0] 67)) := (Below.refl _ _).alloc (Nat.le_refl _) _
            have HX1 := Lib.hid (show EBox (z9.alloc (.cells #[.int .i64 0, .bool false, .slice none 0 0] 67)) z9.heap.size (ib 0) from EBox.new z9 (ib 0))
            have KK := Lib.hid (K0.trans (hb.mono K0.size))
            have hU := K0.size
            clear hb
            refine hK.out _ _ (fun _ => KK.out) ?_
            generalize (z9.alloc (.cells #[.int .i64 0, .bool false, .slice none 0 0] 67)) = v9 at *
            generalize z9.heap.size = D at *
            refine wpAnyW_one (i := 4) (by kernel_rfl) rfl (fun K hK => ?_)
            go_simp
            have hb : Below v9.heap.size v9 (v9.alloc (.cells #[.int .i64 0, .bool false, .slice none 0 0] 67)) := (Below.refl _ _).alloc (Nat.le_refl _) _
            have HY1 := Lib.hid (show EBox (v9.alloc (.cells #[.int .i64 0, .bool false, .slice none 0 0] 67)) v9.heap.size (ib 0) from EBox.new v9 (ib 0))
            have HX2 := Lib.hid (HX1.out.below hb)
            have KK2 := Lib.hid (KK.out.trans (hb.mono KK.out.size))
            have hlt := HX1.out.lt
            have hDl := KK.out.size
            clear hb
            refine hK.out _ _ (fun _ => KK2.out) ?_
            generalize (v9.alloc (.cells #[.int .i64 0, .bool false, .slice none 0 0] 67)) = va at *
            generalize v9.heap.size = U at *
            exact key va U D (Lib.hid ⟨KK2.out, HY1.out, HX2.out, by omega, hDl, hU⟩)
        intro va U D HT
        obtain ⟨y0, y1, y2⟩ := HT.out.ub.cells
        obtain ⟨f0, f1, f2⟩ := HT.out.ub.frozens
        simp only [ib] at y0 y1 y2
        refine wpAnyW_one (i := 6) (by kernel_rfl) rfl (fun K hK => ?_)
        go_simp
        clear y0 y1 y2 f0 f1 f2
        have HTU := Lib.hid (HT.out.setU (⟨p1i, p1g, p1A, p1n, p1c, p1l⟩ : Bd)).1
        simp only at HTU
        refine hK.out _ _ (fun _ => HTU.out.bel) ?_
        generalize ((va.setCell ⟨U, 0, none⟩ (.int .i64 p1i)).setCell ⟨U, 1, none⟩ (.bool p1g)).setCell ⟨U, 2, none⟩ (.slice p1A p1n p1c) = vb at *
        clear HT
        obtain ⟨y0, y1, y2⟩ := HTU.out.db.cells
        obtain ⟨f0, f1, f2⟩ := HTU.out.db.frozens
        simp only [ib] at y0 y1 y2
        refine wpAnyW_one (i := 7) (by kernel_rfl) rfl (fun K hK => ?_)
        go_simp
        clear y0 y1 y2 f0 f1 f2
        have HT0 := Lib.hid (HTU.out.setD (⟨p2i, p2g, p2A, p2n, p2c, p2l⟩ : Bd)).1
        simp only at HT0
        refine hK.out _ _ (fun h => absurd h (by simp)) ?_
        refine wpAnyW_done (by kernel_rfl) ?_ _
        generalize ((vb.setCell ⟨D, 0, none⟩ (.int .i64 p2i)).setCell ⟨D, 1, none⟩ (.bool p2g)).setCell ⟨D, 2, none⟩ (.slice p2A p2n p2c) = u0 at *
        clear HTU
        have HBu := Lib.hid (show Below wr.heap.size wr u0 from HX6.out.2.trans (HT0.out.bel.mono HX6.out.2.size))
        have HUD := Lib.hid (show wr.heap.size ≤ U ∧ wr.heap.size ≤ D from by have := HX6.out.2.size; have := HT0.out.ul; have := HT0.out.dl; omega)
        have HIi := Lib.hid (show ∀ u, Below wr.heap.size wr u → IBox u (B + 1) g (.slice A' n' c') from fun u hu => (hu.block (B + 1) (by have := HG4.out; omega)).trans ((HI.out.bel.block (B + 1) (by have := HG4.out; omega)).trans HI2.out))
        have HLi := Lib.hid (show ∀ u, Below wr.heap.size wr u → LimP u (fun x => x < u.heap.size) A' n' c' l from fun u hu => HL2.out.keep (fun x hx => ⟨by have := hu.size; omega, (hu.block x (by omega)).trans (HI.out.bel.block x hx)⟩))
        have HKa := Lib.hid (show ∀ u, Below wr.heap.size wr u → Bd.At u (fun x => x < u.heap.size) ⟨p1i, p1g, p1A, p1n, p1c, p1l⟩ from fun u hu => HK6.out.1.1.keep (fun x hx => ⟨by have := hu.size; omega, (hu.block x (by omega)).trans (HI.out.bel.block x hx)⟩))
        have HKe := Lib.hid (show ∀ u, Below wr.heap.size wr u → Bd.At u (fun x => x < u.heap.size) ⟨p2i, p2g, p2A, p2n, p2c, p2l⟩ from fun u hu => HK6.out.1.2.keep (fun x hx => ⟨by have := hu.size; omega, (hu.block x (by omega)).trans (HI.out.bel.block x hx)⟩))
        by_cases hai : p1i = 0
        · subst hai
          have hgt : wr.heap.size < u0.heap.size := by have := HT0.out.ub.lt; have := HUD.out; omega
          obtain ⟨y0, y1, y2⟩ := HT0.out.ub.cells
          obtain ⟨n0, n1'⟩ := (HIi.out u0 HBu.out).cells
          simp only at y0 y1 y2
          obtain ⟨x, hx⟩ : ∃ x, ival p1g p1l = x := ⟨_, rfl⟩
          have HXe := Lib.hid (show ea = .num x from by rw [← HEa.out, Bd.ed_zero rfl]; show Ed.num (ival p1g p1l) = _; rw [hx])
          have HDm := Lib.hid (dm_ok (w := u0) (HKa.out u0 HBu.out).lim (HLi.out u0 HBu.out) (fun x hx => hx) (by have := HS6.out.1.1; have := HKM.out.2.1; simp only; omega) HKM.out.2.2 hx HV.out HZ0.out)
          obtain ⟨z1, hz1⟩ : ∃ z1, dvD x z = z1 := ⟨_, rfl⟩
          obtain ⟨z2, hz2⟩ : ∃ z2, dvM x z = z2 := ⟨_, rfl⟩
          simp only at HDm
          rw [hz1, hz2] at HDm
          go_upto_region 20 with (go_at_call 63; (with_reducible refine HDm.out.mono ?_); rintro e u1 ⟨A4, c4, A5, c5, rfl, hat4, hat5, hb1⟩; have HT1 := Lib.hid (HT0.out.below hb1); have HA4 := Lib.hid (hat4.toBh (lo := wr.heap.size) (U := U) (D := D) (by omega) HT0.out.ub.lt HT0.out.db.lt); have HA5 := Lib.hid (hat5.toBh (lo := wr.heap.size) (U := U) (D := D) (by omega) HT0.out.ub.lt HT0.out.db.lt); have HB1 := Lib.hid (HBu.out.trans (hb1.mono (by have := HBu.out.size; omega))); clear hat4 hat5 hb1 y0 y1 y2 n0 n1')
          clear HDm
          generalize hq1 : u1.alloc (.cells #[.bool (decide (z1 < 0)), .slice A4 (digs W z1.natAbs).length c4] 56) = u2 at *
          have h12 : Below u1.heap.size u1 u2 := by rw [← hq1]; exact (Below.refl _ _).alloc (Nat.le_refl _) _
          have HQ2 := Lib.hid (show IBox u2 u1.heap.size (decide (z1 < 0)) (.slice A4 (digs W z1.natAbs).length c4) from by rw [← hq1]; exact IBox.of_alloc)
          generalize hq2 : u2.alloc (.cells #[.bool (decide (z2 < 0)), .slice A5 (digs W z2.natAbs).length c5] 56) = u3 at *
          have h23 : Below u2.heap.size u2 u3 := by rw [← hq2]; exact (Below.refl _ _).alloc (Nat.le_refl _) _
          have hu2 : u2.heap.size = u1.heap.size + 1 := by rw [← hq1]; simp
          have HR3 := Lib.hid (show IBox u3 (u1.heap.size + 1) (decide (z2 < 0)) (.slice A5 (digs W z2.natAbs).length c5) from by rw [← hq2, ← hu2]; exact IBox.of_alloc)
          have HQ3 := Lib.hid (HQ2.out.below h23)
          have HT3 := Lib.hid ((HT1.out.below h12).below h23)
          have HA43 := Lib.hid ((HA4.out.bh h12).bh h23)
          have HA53 := Lib.hid ((HA5.out.bh h12).bh h23)
          have HB3 := Lib.hid ((HB1.out.trans (h12.mono HB1.out.size)).trans (h23.mono (by have := HB1.out.size; have := h12.size; omega)))
          have HN3 := Lib.hid (show U ≠ u1.heap.size + 1 ∧ D ≠ u1.heap.size + 1 from by have := HT1.out.ub.lt; have := HT1.out.db.lt; have := h12.size; omega)
          have HSr0 := Lib.hid (fun (u : World) (hA : (nb z2 A5 c5).At u (Bh wr.heap.size U D u)) => show Calls Tryz.prog 21 #[.agg #[.bool (decide (z2 < 0)), .slice A5 (digs W z2.natAbs).length c5]] u (fun e w' => e = .returned (.int .i64 z2.sign) ∧ Gr u w') from by
            have hh := sign_gr (decide (z2 < 0)) (w := u) (B := u.heap.size) (hA.lim.sl (fun x hx => hx.1.2)) (Nat.le_refl _)
            simp only [nb] at hh
            rw [ival_digs] at hh
            exact hh)
          clear HQ2 HT1 HA4 HA5 HB1 h12 h23 hq1 hq2 HT0 HBu hu2
          generalize u1.heap.size = gq at *
          generalize decide (z2 < 0) = rb at *
          generalize (digs W z2.natAbs).length = rn at *
          obtain ⟨m0, m1⟩ := HQ3.out.cells
          obtain ⟨y0, y1, y2⟩ := HT3.out.ub.cells
          obtain ⟨f0, f1, f2⟩ := HT3.out.ub.frozens
          simp only at y0 y1 y2
          have hs4 := HT3.out.u2 (decide (z1 < 0)) A4 (digs W z1.natAbs).length c4 (digs W z1.natAbs)
          simp only at hs4
          go_upto_region 21 with fail
          clear m0 m1 y0 y1 y2 f0 f1 f2
          generalize (u3.setCell ⟨U, 1, none⟩ (.bool (decide (z1 < 0)))).setCell ⟨U, 2, none⟩ (.slice A4 (digs W z1.natAbs).length c4) = u4 at *
          have HT4 := Lib.hid hs4.1
          have HA44 := Lib.hid (HA43.out.bhU hs4.2)
          have HA54 := Lib.hid (HA53.out.bhU hs4.2)
          have HR4 := Lib.hid (HR3.out.gro hs4.2 (fun e => HN3.out.1 e.symm))
          have HB4 := Lib.hid (HB3.out.grown hs4.2 HB3.out.size (fun j e => by injection e with e; have := HUD.out; omega))
          clear hs4 HT3 HA43 HA53 HR3 HQ3 HB3
          obtain ⟨m0, m1⟩ := HR4.out.cells
          have HSr := Lib.hid (HSr0.out u4 HA54.out)
          clear HSr0
          have HZl := Lib.hid (show (digs W z1.natAbs).length ≤ M from by
            rw [← hz1]
            have h1 := HS6.out.2.1
            rw [HXe.out] at h1
            exact len_dv (x := x) h1 HZ0.out)
          by_cases hz20 : z2 = 0
          · rw [show z2.sign = 0 by rw [hz20]; rfl] at HSr

            go_upto_region 23 with (go_at_call 21; (with_reducible refine HSr.out.mono ?_); rintro e u9 ⟨rfl, hg5⟩; have HT9 := Lib.hid (HT4.out.below hg5.bel); have HA9 := Lib.hid (HA44.out.bh hg5.bel); have HB9 := Lib.hid (HB4.out.trans (hg5.bel.mono HB4.out.size)); clear hg5)
            have HN9 := Lib.hid (show Bd.Nrm ⟨0, decide (z1 < 0), A4, (digs W z1.natAbs).length, c4, digs W z1.natAbs⟩ from nb_nrm z1 A4 c4)
            have HE9 := Lib.hid (show Bd.ed ⟨0, decide (z1 < 0), A4, (digs W z1.natAbs).length, c4, digs W z1.natAbs⟩ = upD z ea from by
              rw [HXe.out]
              simp only [upD, upE]
              rw [hz2, if_neg (by simp [hz20]), hz1]
              exact nb_ed z1 A4 c4)
            simp only [nb] at HA9
            clear HT4 HA44 HA54 HR4 HB4 HSr m0 m1 hx hz1 hz2 hz20 HZl
            generalize decide (z1 < 0) = dg at *
            generalize (digs W z1.natAbs).length = dn at *
            generalize digs W z1.natAbs = dl at *
            generalize A4 = dA at *
            generalize c4 = dc at *
            by_cases hei : p2i = 0
            · subst hei
              obtain ⟨x, hx⟩ : ∃ x, ival p2g p2l = x := ⟨_, rfl⟩
              have HXf := Lib.hid (show ee = .num x from by rw [← HEe.out, Bd.ed_zero rfl]; show Ed.num (ival p2g p2l) = _; rw [hx])
              have HDm := Lib.hid (dm_ok (w := u9) (HKe.out u9 HB9.out).lim (HLi.out u9 HB9.out) (fun x hx => hx) (by have := HS6.out.1.2; have := HKM.out.2.1; simp only; omega) HKM.out.2.2 hx HV.out HZ0.out)
              obtain ⟨z3, hz3⟩ : ∃ z3, dvD x z = z3 := ⟨_, rfl⟩
              obtain ⟨z4, hz4⟩ : ∃ z4, dvM x z = z4 := ⟨_, rfl⟩
              simp only at HDm
              rw [hz3, hz4] at HDm
              obtain ⟨y0, y1, y2⟩ := HT9.out.db.cells
              obtain ⟨n0, n1'⟩ := (HIi.out u9 HB9.out).cells
              simp only at y0 y1 y2
              go_upto_region 26 with (go_at_call 63; (with_reducible refine HDm.out.mono ?_); rintro e ua ⟨A6, c6, A7, c7, rfl, hat6, _, hba⟩; have HTa := Lib.hid (HT9.out.below hba); have HAa := Lib.hid (HA9.out.bh hba); have HFa := Lib.hid (hat6.toBh (lo := wr.heap.size) (U := U) (D := D) HB9.out.size HT9.out.ub.lt HT9.out.db.lt); have HBa := Lib.hid (HB9.out.trans (hba.mono HB9.out.size)); clear hat6 hba y0 y1 y2 n0 n1'; obtain ⟨y0, y1, y2⟩ := HTa.out.db.cells; obtain ⟨f0, f1, f2⟩ := HTa.out.db.frozens; simp only at y0 y1 y2)
              clear HDm y0 y1 y2 f0 f1 f2 HT9 HA9 HB9
              have hsb := HTa.out.d2 (decide (z3 < 0)) A6 (digs W z3.natAbs).length c6 (digs W z3.natAbs)
              simp only at hsb
              generalize (ua.setCell ⟨D, 1, none⟩ (.bool (decide (z3 < 0)))).setCell ⟨D, 2, none⟩ (.slice A6 (digs W z3.natAbs).length c6) = ub at *
              have HTb := Lib.hid hsb.1
              have HAb := Lib.hid (HAa.out.bhD hsb.2)
              have HFb := Lib.hid (HFa.out.bhD hsb.2)
              have HBb := Lib.hid (HBa.out.grown hsb.2 HBa.out.size (fun j e => by injection e with e; have := HUD.out; omega))
              have HNf9 := Lib.hid (show Bd.Nrm ⟨0, decide (z3 < 0), A6, (digs W z3.natAbs).length, c6, digs W z3.natAbs⟩ from nb_nrm z3 A6 c6)
              have HEf9 := Lib.hid (show Bd.ed ⟨0, decide (z3 < 0), A6, (digs W z3.natAbs).length, c6, digs W z3.natAbs⟩ = dnD z ee from by
                rw [HXf.out]
                simp only [dnD, downE]
                rw [hz3]
                exact nb_ed z3 A6 c6)
              simp only [nb] at HFb
              clear hsb HTa HAa HFa HBa hx hz3 hz4
              generalize decide (z3 < 0) = fg at *
              generalize (digs W z3.natAbs).length = fn at *
              generalize digs W z3.natAbs = fl at *
              generalize A6 = fA at *
              generalize c6 = fc at *
              have hd1 : True := trivial
              clear hd1
              obtain ⟨y0, y1, y2⟩ := HTb.out.ub.cells
              obtain ⟨t0, t1, t2⟩ := HTb.out.db.cells
              simp only at y0 y1 y2 t0 t1 t2
              have HQ := Lib.hid (show Rg.At ub (fun x => wr.heap.size ≤ x ∧ x < ub.heap.size) ((⟨0, dg, dA, dn, dc, dl⟩, ⟨0, fg, fA, fn, fc, fl⟩) : Rg) from ⟨HAb.out.wide (fun x hx => hx.1), HFb.out.wide (fun x hx => hx.1)⟩)
              have HMx := Lib.hid (show k + 1 ≤ maxRg from by unfold maxRg; omega)
              have HEq := Lib.hid (show edsR ((⟨0, dg, dA, dn, dc, dl⟩, ⟨0, fg, fA, fn, fc, fl⟩) : Rg) = paD z (edsR P0) from by
                rw [HE6.out]
                unfold edsR
                rw [HE9.out, HEf9.out])
              have HGq := Lib.hid (show Gd ((⟨0, dg, dA, dn, dc, dl⟩, ⟨0, fg, fA, fn, fc, fl⟩) : Rg) from Gd.mk' HQ.out HN9.out HNf9.out
                (by rw [HE9.out]; refine Nat.le_trans (szE_up HS6.out.2.1 HZ0.out) ?_; have := HKM.out.2.1; omega) (by rw [HEf9.out]; refine Nat.le_trans (szE_dn HS6.out.2.2 HZ0.out) ?_; have := HKM.out.2.1; omega))
              clear HIi HLi HKa HKe HX6 HK6
              go_wp2_with (at_builtin; refine wpList_app1R (q := ((⟨0, dg, dA, dn, dc, dl⟩, ⟨0, fg, fA, fn, fc, fl⟩) : Rg)) rfl _ _ rfl rfl rfl HI.out.row hw2 HBb.out (HI.out.row.apart hw2 (Nat.le_refl _) HQ.out) HMx.out ?_; intro A8 c8 w8 hr8 hb8 hs8; have HN8 := Lib.hid (show PH w2 z qs (k + 1) A8 c8 (rs ++ [((⟨0, dg, dA, dn, dc, dl⟩, ⟨0, fg, fA, fn, fc, fl⟩) : Rg)]) w8 from ⟨HI.out.bel.trans hb8, hr8, fun q hq => (List.mem_append.1 hq).elim (HI.out.gd q) (fun h => by rw [List.mem_singleton.1 h]; exact HGq.out), eds_add HI.out.eds HPq.out HEq.out⟩); clear hr8 hb8 hs8)
              go_roundw
              case rel => exact ⟨k + 1, A8, c8, _, by omega, by go_num, rfl, HN8⟩
              case measure => simp [intOf]; omega
            · obtain ⟨fi, hfi⟩ : ∃ q, p2i * sg = q := ⟨_, rfl⟩
              have heib : (p2i == 0) = false := beq_eq_false_iff_ne.2 hei
              have HIt := Lib.hid (fun (y : World) => inf_turn (w' := y) (Q := Bh wr.heap.size U D y) (HKe.out u9 HB9.out) HK6.out.2.2 hei HZ.out)
              have hwr : IntKind.i64.wrap fi = fi := by
                obtain ⟨q, h1, _⟩ := HIt.out u9
                simp only at h1
                rw [hfi] at h1
                rw [h1]
                exact wrap_same h1 hfi HK6.out.2.2 hei HZ.out
              obtain ⟨y0, y1, y2⟩ := HT9.out.db.cells
              obtain ⟨f0, f1, f2⟩ := HT9.out.db.frozens
              simp only at y0 y1 y2
              have hsb := HT9.out.d0 fi
              simp only at hsb
              go_upto_region 26 with fail
              clear y0 y1 y2 f0 f1 f2
              generalize (u9.setCell ⟨D, 0, none⟩ (.int .i64 fi)) = ub at *
              have HTb := Lib.hid hsb.1
              have HI9 := Lib.hid (show (⟨fi, p2g, p2A, p2n, p2c, p2l⟩ : Bd).At ub (Bh wr.heap.size U D ub) ∧ (⟨fi, p2g, p2A, p2n, p2c, p2l⟩ : Bd).Nrm ∧ (⟨fi, p2g, p2A, p2n, p2c, p2l⟩ : Bd).ed = dnD z ee from by
                obtain ⟨q, h1, h2, h3, _, h4⟩ := HIt.out ub
                simp only at h1 h2 h3 h4
                rw [HEe.out] at h4
                rw [hfi, hwr] at h1
                subst h1
                exact ⟨h2, h3, h4⟩)
              have HFb := Lib.hid HI9.out.1
              have HNf9 := Lib.hid HI9.out.2.1
              have HEf9 := Lib.hid HI9.out.2.2
              have HAb := Lib.hid (HA9.out.bhD hsb.2)
              have HBb := Lib.hid (HB9.out.grown hsb.2 HB9.out.size (fun j e => by injection e with e; have := HUD.out; omega))
              clear hsb HIt HI9 hfi hwr heib HB9 HT9 HA9
              clear HEe
              generalize p2g = fg at HTb HFb HNf9 HEf9
              generalize p2A = fA at HTb HFb HNf9 HEf9
              generalize p2n = fn at HTb HFb HNf9 HEf9
              generalize p2c = fc at HTb HFb HNf9 HEf9
              generalize p2l = fl at HTb HFb HNf9 HEf9
              obtain ⟨y0, y1, y2⟩ := HTb.out.ub.cells
              obtain ⟨t0, t1, t2⟩ := HTb.out.db.cells
              simp only at y0 y1 y2 t0 t1 t2
              have HQ := Lib.hid (show Rg.At ub (fun x => wr.heap.size ≤ x ∧ x < ub.heap.size) ((⟨0, dg, dA, dn, dc, dl⟩, ⟨fi, fg, fA, fn, fc, fl⟩) : Rg) from ⟨HAb.out.wide (fun x hx => hx.1), HFb.out.wide (fun x hx => hx.1)⟩)
              have HMx := Lib.hid (show k + 1 ≤ maxRg from by unfold maxRg; omega)
              have HEq := Lib.hid (show edsR ((⟨0, dg, dA, dn, dc, dl⟩, ⟨fi, fg, fA, fn, fc, fl⟩) : Rg) = paD z (edsR P0) from by
                rw [HE6.out]
                unfold edsR
                rw [HE9.out, HEf9.out])
              have HGq := Lib.hid (show Gd ((⟨0, dg, dA, dn, dc, dl⟩, ⟨fi, fg, fA, fn, fc, fl⟩) : Rg) from Gd.mk' HQ.out HN9.out HNf9.out
                (by rw [HE9.out]; refine Nat.le_trans (szE_up HS6.out.2.1 HZ0.out) ?_; have := HKM.out.2.1; omega) (by rw [HEf9.out]; refine Nat.le_trans (szE_dn HS6.out.2.2 HZ0.out) ?_; have := HKM.out.2.1; omega))
              clear HIi HLi HKa HKe HX6 HK6
              go_wp2_with (at_builtin; refine wpList_app1R (q := ((⟨0, dg, dA, dn, dc, dl⟩, ⟨fi, fg, fA, fn, fc, fl⟩) : Rg)) rfl _ _ rfl rfl rfl HI.out.row hw2 HBb.out (HI.out.row.apart hw2 (Nat.le_refl _) HQ.out) HMx.out ?_; intro A8 c8 w8 hr8 hb8 hs8; have HN8 := Lib.hid (show PH w2 z qs (k + 1) A8 c8 (rs ++ [((⟨0, dg, dA, dn, dc, dl⟩, ⟨fi, fg, fA, fn, fc, fl⟩) : Rg)]) w8 from ⟨HI.out.bel.trans hb8, hr8, fun q hq => (List.mem_append.1 hq).elim (HI.out.gd q) (fun h => by rw [List.mem_singleton.1 h]; exact HGq.out), eds_add HI.out.eds HPq.out HEq.out⟩); clear hr8 hb8 hs8)
              go_roundw
              case rel => exact ⟨k + 1, A8, c8, _, by omega, by go_num, rfl, HN8⟩
              case measure => simp [intOf]; omega
          · obtain ⟨s2, hs2⟩ : ∃ s, z2.sign = s := ⟨_, rfl⟩
            have hs20 : (s2 == 0) = false := beq_eq_false_iff_ne.2 (fun h => hz20 (Int.sign_eq_zero_iff_zero.1 (hs2.trans h)))
            rw [hs2] at HSr
            clear hs2
            go_upto_region 22 with (go_at_call 21; (with_reducible refine HSr.out.mono ?_); rintro e u5 ⟨rfl, hg5⟩; have HT5 := Lib.hid (HT4.out.below hg5.bel); have HA5 := Lib.hid (HA44.out.bh hg5.bel); have HB5 := Lib.hid (HB4.out.trans (hg5.bel.mono HB4.out.size)); clear hg5)
            have HSt := Lib.hid (step_fr (w := u5) (b := nb z1 A4 c4) 1 (.inl rfl) HA5.out (fun x hx => hx.1.2) (.inr (.inl rfl)) (fun h => absurd rfl h) (by simp only [nb]; have := HZl.out; have := HKM.out.2.1; omega))
            have HE0 := Lib.hid (show shE 1 (nb z1 A4 c4).ed = upD z ea from by
              rw [HXe.out, nb_ed]
              simp only [upD, upE]
              rw [hz2, if_pos hz20, hz1]
              rfl)
            unfold StepFr at HSt
            rw [HE0.out] at HSt
            simp only [Bd.v, Bd.vals, nb] at HSt
            clear HT4 HA44 HA54 HR4 HB4 HSr m0 m1 HA5 HE0
            obtain ⟨y0, y1, y2⟩ := HT5.out.ub.cells
            simp only at y0 y1 y2
            go_upto_region 23 with (go_at_call 64; (with_reducible refine HSt.out.mono ?_); rintro e u6 ⟨⟨di, dg, dA, dn, dc, dl⟩, rfl, hat6, hnr6, hed6, hb6⟩; have HT6 := Lib.hid (HT5.out.below hb6); have HA6 := Lib.hid (hat6.toBh (lo := wr.heap.size) (U := U) (D := D) HB5.out.size HT5.out.ub.lt HT5.out.db.lt); have HB6 := Lib.hid (HB5.out.trans (hb6.mono HB5.out.size)); have HN9 := Lib.hid hnr6; have HE9 := Lib.hid hed6; clear hat6 hnr6 hed6 hb6 y0 y1 y2; obtain ⟨y0, y1, y2⟩ := HT6.out.ub.cells; obtain ⟨f0, f1, f2⟩ := HT6.out.ub.frozens; simp only at y0 y1 y2)
            clear HSt HT5 HB5 y0 y1 y2 f0 f1 f2
            have hs9 := HT6.out.setU (⟨di, dg, dA, dn, dc, dl⟩ : Bd)
            simp only at hs9
            generalize ((u6.setCell ⟨U, 0, none⟩ (.int .i64 di)).setCell ⟨U, 1, none⟩ (.bool dg)).setCell ⟨U, 2, none⟩ (.slice dA dn dc) = u9 at *
            have HT9 := Lib.hid hs9.1
            have HA9 := Lib.hid (HA6.out.bhU hs9.2)
            have HB9 := Lib.hid (HB6.out.grown hs9.2 HB6.out.size (fun j e => by injection e with e; have := HUD.out; omega))
            clear hs9 HT6 HA6 HB6 hx hz1 hz2 hz20 hs20 HZl
            by_cases hei : p2i = 0
            · subst hei
              obtain ⟨x, hx⟩ : ∃ x, ival p2g p2l = x := ⟨_, rfl⟩
              have HXf := Lib.hid (show ee = .num x from by rw [← HEe.out, Bd.ed_zero rfl]; show Ed.num (ival p2g p2l) = _; rw [hx])
              have HDm := Lib.hid (dm_ok (w := u9) (HKe.out u9 HB9.out).lim (HLi.out u9 HB9.out) (fun x hx => hx) (by have := HS6.out.1.2; have := HKM.out.2.1; simp only; omega) HKM.out.2.2 hx HV.out HZ0.out)
              obtain ⟨z3, hz3⟩ : ∃ z3, dvD x z = z3 := ⟨_, rfl⟩
              obtain ⟨z4, hz4⟩ : ∃ z4, dvM x z = z4 := ⟨_, rfl⟩
              simp only at HDm
              rw [hz3, hz4] at HDm
              obtain ⟨y0, y1, y2⟩ := HT9.out.db.cells
              obtain ⟨n0, n1'⟩ := (HIi.out u9 HB9.out).cells
              simp only at y0 y1 y2
              go_upto_region 26 with (go_at_call 63; (with_reducible refine HDm.out.mono ?_); rintro e ua ⟨A6, c6, A7, c7, rfl, hat6, _, hba⟩; have HTa := Lib.hid (HT9.out.below hba); have HAa := Lib.hid (HA9.out.bh hba); have HFa := Lib.hid (hat6.toBh (lo := wr.heap.size) (U := U) (D := D) HB9.out.size HT9.out.ub.lt HT9.out.db.lt); have HBa := Lib.hid (HB9.out.trans (hba.mono HB9.out.size)); clear hat6 hba y0 y1 y2 n0 n1'; obtain ⟨y0, y1, y2⟩ := HTa.out.db.cells; obtain ⟨f0, f1, f2⟩ := HTa.out.db.frozens; simp only at y0 y1 y2)
              clear HDm y0 y1 y2 f0 f1 f2 HT9 HA9 HB9
              have hsb := HTa.out.d2 (decide (z3 < 0)) A6 (digs W z3.natAbs).length c6 (digs W z3.natAbs)
              simp only at hsb
              generalize (ua.setCell ⟨D, 1, none⟩ (.bool (decide (z3 < 0)))).setCell ⟨D, 2, none⟩ (.slice A6 (digs W z3.natAbs).length c6) = ub at *
              have HTb := Lib.hid hsb.1
              have HAb := Lib.hid (HAa.out.bhD hsb.2)
              have HFb := Lib.hid (HFa.out.bhD hsb.2)
              have HBb := Lib.hid (HBa.out.grown hsb.2 HBa.out.size (fun j e => by injection e with e; have := HUD.out; omega))
              have HNf9 := Lib.hid (show Bd.Nrm ⟨0, decide (z3 < 0), A6, (digs W z3.natAbs).length, c6, digs W z3.natAbs⟩ from nb_nrm z3 A6 c6)
              have HEf9 := Lib.hid (show Bd.ed ⟨0, decide (z3 < 0), A6, (digs W z3.natAbs).length, c6, digs W z3.natAbs⟩ = dnD z ee from by
                rw [HXf.out]
                simp only [dnD, downE]
                rw [hz3]
                exact nb_ed z3 A6 c6)
              simp only [nb] at HFb
              clear hsb HTa HAa HFa HBa hx hz3 hz4
              generalize decide (z3 < 0) = fg at *
              generalize (digs W z3.natAbs).length = fn at *
              generalize digs W z3.natAbs = fl at *
              generalize A6 = fA at *
              generalize c6 = fc at *
              have hd1 : True := trivial
              clear hd1
              obtain ⟨y0, y1, y2⟩ := HTb.out.ub.cells
              obtain ⟨t0, t1, t2⟩ := HTb.out.db.cells
              simp only at y0 y1 y2 t0 t1 t2
              have HQ := Lib.hid (show Rg.At ub (fun x => wr.heap.size ≤ x ∧ x < ub.heap.size) ((⟨di, dg, dA, dn, dc, dl⟩, ⟨0, fg, fA, fn, fc, fl⟩) : Rg) from ⟨HAb.out.wide (fun x hx => hx.1), HFb.out.wide (fun x hx => hx.1)⟩)
              have HMx := Lib.hid (show k + 1 ≤ maxRg from by unfold maxRg; omega)
              have HEq := Lib.hid (show edsR ((⟨di, dg, dA, dn, dc, dl⟩, ⟨0, fg, fA, fn, fc, fl⟩) : Rg) = paD z (edsR P0) from by
                rw [HE6.out]
                unfold edsR
                rw [HE9.out, HEf9.out])
              have HGq := Lib.hid (show Gd ((⟨di, dg, dA, dn, dc, dl⟩, ⟨0, fg, fA, fn, fc, fl⟩) : Rg) from Gd.mk' HQ.out HN9.out HNf9.out
                (by rw [HE9.out]; refine Nat.le_trans (szE_up HS6.out.2.1 HZ0.out) ?_; have := HKM.out.2.1; omega) (by rw [HEf9.out]; refine Nat.le_trans (szE_dn HS6.out.2.2 HZ0.out) ?_; have := HKM.out.2.1; omega))
              clear HIi HLi HKa HKe HX6 HK6
              go_wp2_with (at_builtin; refine wpList_app1R (q := ((⟨di, dg, dA, dn, dc, dl⟩, ⟨0, fg, fA, fn, fc, fl⟩) : Rg)) rfl _ _ rfl rfl rfl HI.out.row hw2 HBb.out (HI.out.row.apart hw2 (Nat.le_refl _) HQ.out) HMx.out ?_; intro A8 c8 w8 hr8 hb8 hs8; have HN8 := Lib.hid (show PH w2 z qs (k + 1) A8 c8 (rs ++ [((⟨di, dg, dA, dn, dc, dl⟩, ⟨0, fg, fA, fn, fc, fl⟩) : Rg)]) w8 from ⟨HI.out.bel.trans hb8, hr8, fun q hq => (List.mem_append.1 hq).elim (HI.out.gd q) (fun h => by rw [List.mem_singleton.1 h]; exact HGq.out), eds_add HI.out.eds HPq.out HEq.out⟩); clear hr8 hb8 hs8)
              go_roundw
              case rel => exact ⟨k + 1, A8, c8, _, by omega, by go_num, rfl, HN8⟩
              case measure => simp [intOf]; omega
            · obtain ⟨fi, hfi⟩ : ∃ q, p2i * sg = q := ⟨_, rfl⟩
              have heib : (p2i == 0) = false := beq_eq_false_iff_ne.2 hei
              have HIt := Lib.hid (fun (y : World) => inf_turn (w' := y) (Q := Bh wr.heap.size U D y) (HKe.out u9 HB9.out) HK6.out.2.2 hei HZ.out)
              have hwr : IntKind.i64.wrap fi = fi := by
                obtain ⟨q, h1, _⟩ := HIt.out u9
                simp only at h1
                rw [hfi] at h1
                rw [h1]
                exact wrap_same h1 hfi HK6.out.2.2 hei HZ.out
              obtain ⟨y0, y1, y2⟩ := HT9.out.db.cells
              obtain ⟨f0, f1, f2⟩ := HT9.out.db.frozens
              simp only at y0 y1 y2
              have hsb := HT9.out.d0 fi
              simp only at hsb
              go_upto_region 26 with fail
              clear y0 y1 y2 f0 f1 f2
              generalize (u9.setCell ⟨D, 0, none⟩ (.int .i64 fi)) = ub at *
              have HTb := Lib.hid hsb.1
              have HI9 := Lib.hid (show (⟨fi, p2g, p2A, p2n, p2c, p2l⟩ : Bd).At ub (Bh wr.heap.size U D ub) ∧ (⟨fi, p2g, p2A, p2n, p2c, p2l⟩ : Bd).Nrm ∧ (⟨fi, p2g, p2A, p2n, p2c, p2l⟩ : Bd).ed = dnD z ee from by
                obtain ⟨q, h1, h2, h3, _, h4⟩ := HIt.out ub
                simp only at h1 h2 h3 h4
                rw [HEe.out] at h4
                rw [hfi, hwr] at h1
                subst h1
                exact ⟨h2, h3, h4⟩)
              have HFb := Lib.hid HI9.out.1
              have HNf9 := Lib.hid HI9.out.2.1
              have HEf9 := Lib.hid HI9.out.2.2
              have HAb := Lib.hid (HA9.out.bhD hsb.2)
              have HBb := Lib.hid (HB9.out.grown hsb.2 HB9.out.size (fun j e => by injection e with e; have := HUD.out; omega))
              clear hsb HIt HI9 hfi hwr heib HB9 HT9 HA9
              clear HEe
              generalize p2g = fg at HTb HFb HNf9 HEf9
              generalize p2A = fA at HTb HFb HNf9 HEf9
              generalize p2n = fn at HTb HFb HNf9 HEf9
              generalize p2c = fc at HTb HFb HNf9 HEf9
              generalize p2l = fl at HTb HFb HNf9 HEf9
              obtain ⟨y0, y1, y2⟩ := HTb.out.ub.cells
              obtain ⟨t0, t1, t2⟩ := HTb.out.db.cells
              simp only at y0 y1 y2 t0 t1 t2
              have HQ := Lib.hid (show Rg.At ub (fun x => wr.heap.size ≤ x ∧ x < ub.heap.size) ((⟨di, dg, dA, dn, dc, dl⟩, ⟨fi, fg, fA, fn, fc, fl⟩) : Rg) from ⟨HAb.out.wide (fun x hx => hx.1), HFb.out.wide (fun x hx => hx.1)⟩)
              have HMx := Lib.hid (show k + 1 ≤ maxRg from by unfold maxRg; omega)
              have HEq := Lib.hid (show edsR ((⟨di, dg, dA, dn, dc, dl⟩, ⟨fi, fg, fA, fn, fc, fl⟩) : Rg) = paD z (edsR P0) from by
                rw [HE6.out]
                unfold edsR
                rw [HE9.out, HEf9.out])
              have HGq := Lib.hid (show Gd ((⟨di, dg, dA, dn, dc, dl⟩, ⟨fi, fg, fA, fn, fc, fl⟩) : Rg) from Gd.mk' HQ.out HN9.out HNf9.out
                (by rw [HE9.out]; refine Nat.le_trans (szE_up HS6.out.2.1 HZ0.out) ?_; have := HKM.out.2.1; omega) (by rw [HEf9.out]; refine Nat.le_trans (szE_dn HS6.out.2.2 HZ0.out) ?_; have := HKM.out.2.1; omega))
              clear HIi HLi HKa HKe HX6 HK6
              go_wp2_with (at_builtin; refine wpList_app1R (q := ((⟨di, dg, dA, dn, dc, dl⟩, ⟨fi, fg, fA, fn, fc, fl⟩) : Rg)) rfl _ _ rfl rfl rfl HI.out.row hw2 HBb.out (HI.out.row.apart hw2 (Nat.le_refl _) HQ.out) HMx.out ?_; intro A8 c8 w8 hr8 hb8 hs8; have HN8 := Lib.hid (show PH w2 z qs (k + 1) A8 c8 (rs ++ [((⟨di, dg, dA, dn, dc, dl⟩, ⟨fi, fg, fA, fn, fc, fl⟩) : Rg)]) w8 from ⟨HI.out.bel.trans hb8, hr8, fun q hq => (List.mem_append.1 hq).elim (HI.out.gd q) (fun h => by rw [List.mem_singleton.1 h]; exact HGq.out), eds_add HI.out.eds HPq.out HEq.out⟩); clear hr8 hb8 hs8)
              go_roundw
              case rel => exact ⟨k + 1, A8, c8, _, by omega, by go_num, rfl, HN8⟩
              case measure => simp [intOf]; omega
        · obtain ⟨di, hdi⟩ : ∃ q, p1i * sg = q := ⟨_, rfl⟩
          have haib : (p1i == 0) = false := beq_eq_false_iff_ne.2 hai
          have HIt := Lib.hid (fun (y : World) => inf_turn (w' := y) (Q := Bh wr.heap.size U D y) (HKa.out u0 HBu.out) HK6.out.2.1 hai HZ.out)
          have hwr : IntKind.i64.wrap di = di := by
            obtain ⟨q, h1, h2, _⟩ := HIt.out u0
            simp only at h1
            rw [hdi] at h1
            rw [h1]
            exact wrap_same h1 hdi HK6.out.2.1 hai HZ.out
          obtain ⟨y0, y1, y2⟩ := HT0.out.ub.cells
          obtain ⟨f0, f1, f2⟩ := HT0.out.ub.frozens
          simp only at y0 y1 y2
          have hs9 := HT0.out.u0 di
          simp only at hs9
          go_upto_region 23 with fail
          clear y0 y1 y2 f0 f1 f2
          generalize (u0.setCell ⟨U, 0, none⟩ (.int .i64 di)) = u9 at *
          have HT9 := Lib.hid hs9.1
          have HI9 := Lib.hid (show (⟨di, p1g, p1A, p1n, p1c, p1l⟩ : Bd).At u9 (Bh wr.heap.size U D u9) ∧ (⟨di, p1g, p1A, p1n, p1c, p1l⟩ : Bd).Nrm ∧ (⟨di, p1g, p1A, p1n, p1c, p1l⟩ : Bd).ed = upD z ea from by
            obtain ⟨q, h1, h2, h3, h4, _⟩ := HIt.out u9
            simp only at h1 h2 h3 h4
            rw [HEa.out] at h4
            rw [hdi, hwr] at h1
            subst h1
            exact ⟨h2, h3, h4⟩)
          have HA9 := Lib.hid HI9.out.1
          have HN9 := Lib.hid HI9.out.2.1
          have HE9 := Lib.hid HI9.out.2.2
          have HB9 := Lib.hid (HBu.out.grown hs9.2 HBu.out.size (fun j e => by injection e with e; have := HUD.out; omega))
          clear hs9 HT0 HIt HI9 hdi hwr haib HBu
          clear HEa
          generalize p1g = dg at HT9 HA9 HN9 HE9
          generalize p1A = dA at HT9 HA9 HN9 HE9
          generalize p1n = dn at HT9 HA9 HN9 HE9
          generalize p1c = dc at HT9 HA9 HN9 HE9
          generalize p1l = dl at HT9 HA9 HN9 HE9
          by_cases hei : p2i = 0
          · subst hei
            obtain ⟨x, hx⟩ : ∃ x, ival p2g p2l = x := ⟨_, rfl⟩
            have HXf := Lib.hid (show ee = .num x from by rw [← HEe.out, Bd.ed_zero rfl]; show Ed.num (ival p2g p2l) = _; rw [hx])
            have HDm := Lib.hid (dm_ok (w := u9) (HKe.out u9 HB9.out).lim (HLi.out u9 HB9.out) (fun x hx => hx) (by have := HS6.out.1.2; have := HKM.out.2.1; simp only; omega) HKM.out.2.2 hx HV.out HZ0.out)
            obtain ⟨z3, hz3⟩ : ∃ z3, dvD x z = z3 := ⟨_, rfl⟩
            obtain ⟨z4, hz4⟩ : ∃ z4, dvM x z = z4 := ⟨_, rfl⟩
            simp only at HDm
            rw [hz3, hz4] at HDm
            obtain ⟨y0, y1, y2⟩ := HT9.out.db.cells
            obtain ⟨n0, n1'⟩ := (HIi.out u9 HB9.out).cells
            simp only at y0 y1 y2
            go_upto_region 26 with (go_at_call 63; (with_reducible refine HDm.out.mono ?_); rintro e ua ⟨A6, c6, A7, c7, rfl, hat6, _, hba⟩; have HTa := Lib.hid (HT9.out.below hba); have HAa := Lib.hid (HA9.out.bh hba); have HFa := Lib.hid (hat6.toBh (lo := wr.heap.size) (U := U) (D := D) HB9.out.size HT9.out.ub.lt HT9.out.db.lt); have HBa := Lib.hid (HB9.out.trans (hba.mono HB9.out.size)); clear hat6 hba y0 y1 y2 n0 n1'; obtain ⟨y0, y1, y2⟩ := HTa.out.db.cells; obtain ⟨f0, f1, f2⟩ := HTa.out.db.frozens; simp only at y0 y1 y2)
            clear HDm y0 y1 y2 f0 f1 f2 HT9 HA9 HB9
            have hsb := HTa.out.d2 (decide (z3 < 0)) A6 (digs W z3.natAbs).length c6 (digs W z3.natAbs)
            simp only at hsb
            generalize (ua.setCell ⟨D, 1, none⟩ (.bool (decide (z3 < 0)))).setCell ⟨D, 2, none⟩ (.slice A6 (digs W z3.natAbs).length c6) = ub at *
            have HTb := Lib.hid hsb.1
            have HAb := Lib.hid (HAa.out.bhD hsb.2)
            have HFb := Lib.hid (HFa.out.bhD hsb.2)
            have HBb := Lib.hid (HBa.out.grown hsb.2 HBa.out.size (fun j e => by injection e with e; have := HUD.out; omega))
            have HNf9 := Lib.hid (show Bd.Nrm ⟨0, decide (z3 < 0), A6, (digs W z3.natAbs).length, c6, digs W z3.natAbs⟩ from nb_nrm z3 A6 c6)
            have HEf9 := Lib.hid (show Bd.ed ⟨0, decide (z3 < 0), A6, (digs W z3.natAbs).length, c6, digs W z3.natAbs⟩ = dnD z ee from by
              rw [HXf.out]
              simp only [dnD, downE]
              rw [hz3]
              exact nb_ed z3 A6 c6)
            simp only [nb] at HFb
            clear hsb HTa HAa HFa HBa hx hz3 hz4
            generalize decide (z3 < 0) = fg at *
            generalize (digs W z3.natAbs).length = fn at *
            generalize digs W z3.natAbs = fl at *
            generalize A6 = fA at *
            generalize c6 = fc at *
            have hd1 : True := trivial
            clear hd1
            obtain ⟨y0, y1, y2⟩ := HTb.out.ub.cells
            obtain ⟨t0, t1, t2⟩ := HTb.out.db.cells
            simp only at y0 y1 y2 t0 t1 t2
            have HQ := Lib.hid (show Rg.At ub (fun x => wr.heap.size ≤ x ∧ x < ub.heap.size) ((⟨di, dg, dA, dn, dc, dl⟩, ⟨0, fg, fA, fn, fc, fl⟩) : Rg) from ⟨HAb.out.wide (fun x hx => hx.1), HFb.out.wide (fun x hx => hx.1)⟩)
            have HMx := Lib.hid (show k + 1 ≤ maxRg from by unfold maxRg; omega)
            have HEq := Lib.hid (show edsR ((⟨di, dg, dA, dn, dc, dl⟩, ⟨0, fg, fA, fn, fc, fl⟩) : Rg) = paD z (edsR P0) from by
              rw [HE6.out]
              unfold edsR
              rw [HE9.out, HEf9.out])
            have HGq := Lib.hid (show Gd ((⟨di, dg, dA, dn, dc, dl⟩, ⟨0, fg, fA, fn, fc, fl⟩) : Rg) from Gd.mk' HQ.out HN9.out HNf9.out
              (by rw [HE9.out]; refine Nat.le_trans (szE_up HS6.out.2.1 HZ0.out) ?_; have := HKM.out.2.1; omega) (by rw [HEf9.out]; refine Nat.le_trans (szE_dn HS6.out.2.2 HZ0.out) ?_; have := HKM.out.2.1; omega))
            clear HIi HLi HKa HKe HX6 HK6
            go_wp2_with (at_builtin; refine wpList_app1R (q := ((⟨di, dg, dA, dn, dc, dl⟩, ⟨0, fg, fA, fn, fc, fl⟩) : Rg)) rfl _ _ rfl rfl rfl HI.out.row hw2 HBb.out (HI.out.row.apart hw2 (Nat.le_refl _) HQ.out) HMx.out ?_; intro A8 c8 w8 hr8 hb8 hs8; have HN8 := Lib.hid (show PH w2 z qs (k + 1) A8 c8 (rs ++ [((⟨di, dg, dA, dn, dc, dl⟩, ⟨0, fg, fA, fn, fc, fl⟩) : Rg)]) w8 from ⟨HI.out.bel.trans hb8, hr8, fun q hq => (List.mem_append.1 hq).elim (HI.out.gd q) (fun h => by rw [List.mem_singleton.1 h]; exact HGq.out), eds_add HI.out.eds HPq.out HEq.out⟩); clear hr8 hb8 hs8)
            go_roundw
            case rel => exact ⟨k + 1, A8, c8, _, by omega, by go_num, rfl, HN8⟩
            case measure => simp [intOf]; omega
          · obtain ⟨fi, hfi⟩ : ∃ q, p2i * sg = q := ⟨_, rfl⟩
            have heib : (p2i == 0) = false := beq_eq_false_iff_ne.2 hei
            have HIt := Lib.hid (fun (y : World) => inf_turn (w' := y) (Q := Bh wr.heap.size U D y) (HKe.out u9 HB9.out) HK6.out.2.2 hei HZ.out)
            have hwr : IntKind.i64.wrap fi = fi := by
              obtain ⟨q, h1, _⟩ := HIt.out u9
              simp only at h1
              rw [hfi] at h1
              rw [h1]
              exact wrap_same h1 hfi HK6.out.2.2 hei HZ.out
            obtain ⟨y0, y1, y2⟩ := HT9.out.db.cells
            obtain ⟨f0, f1, f2⟩ := HT9.out.db.frozens
            simp only at y0 y1 y2
            have hsb := HT9.out.d0 fi
            simp only at hsb
            go_upto_region 26 with fail
            clear y0 y1 y2 f0 f1 f2
            generalize (u9.setCell ⟨D, 0, none⟩ (.int .i64 fi)) = ub at *
            have HTb := Lib.hid hsb.1
            have HI9 := Lib.hid (show (⟨fi, p2g, p2A, p2n, p2c, p2l⟩ : Bd).At ub (Bh wr.heap.size U D ub) ∧ (⟨fi, p2g, p2A, p2n, p2c, p2l⟩ : Bd).Nrm ∧ (⟨fi, p2g, p2A, p2n, p2c, p2l⟩ : Bd).ed = dnD z ee from by
              obtain ⟨q, h1, h2, h3, _, h4⟩ := HIt.out ub
              simp only at h1 h2 h3 h4
              rw [HEe.out] at h4
              rw [hfi, hwr] at h1
              subst h1
              exact ⟨h2, h3, h4⟩)
            have HFb := Lib.hid HI9.out.1
            have HNf9 := Lib.hid HI9.out.2.1
            have HEf9 := Lib.hid HI9.out.2.2
            have HAb := Lib.hid (HA9.out.bhD hsb.2)
            have HBb := Lib.hid (HB9.out.grown hsb.2 HB9.out.size (fun j e => by injection e with e; have := HUD.out; omega))
            clear hsb HIt HI9 hfi hwr heib HB9 HT9 HA9
            clear HEe
            generalize p2g = fg at HTb HFb HNf9 HEf9
            generalize p2A = fA at HTb HFb HNf9 HEf9
            generalize p2n = fn at HTb HFb HNf9 HEf9
            generalize p2c = fc at HTb HFb HNf9 HEf9
            generalize p2l = fl at HTb HFb HNf9 HEf9
            obtain ⟨y0, y1, y2⟩ := HTb.out.ub.cells
            obtain ⟨t0, t1, t2⟩ := HTb.out.db.cells
            simp only at y0 y1 y2 t0 t1 t2
            have HQ := Lib.hid (show Rg.At ub (fun x => wr.heap.size ≤ x ∧ x < ub.heap.size) ((⟨di, dg, dA, dn, dc, dl⟩, ⟨fi, fg, fA, fn, fc, fl⟩) : Rg) from ⟨HAb.out.wide (fun x hx => hx.1), HFb.out.wide (fun x hx => hx.1)⟩)
            have HMx := Lib.hid (show k + 1 ≤ maxRg from by unfold maxRg; omega)
            have HEq := Lib.hid (show edsR ((⟨di, dg, dA, dn, dc, dl⟩, ⟨fi, fg, fA, fn, fc, fl⟩) : Rg) = paD z (edsR P0) from by
              rw [HE6.out]
              unfold edsR
              rw [HE9.out, HEf9.out])
            have HGq := Lib.hid (show Gd ((⟨di, dg, dA, dn, dc, dl⟩, ⟨fi, fg, fA, fn, fc, fl⟩) : Rg) from Gd.mk' HQ.out HN9.out HNf9.out
              (by rw [HE9.out]; refine Nat.le_trans (szE_up HS6.out.2.1 HZ0.out) ?_; have := HKM.out.2.1; omega) (by rw [HEf9.out]; refine Nat.le_trans (szE_dn HS6.out.2.2 HZ0.out) ?_; have := HKM.out.2.1; omega))
            clear HIi HLi HKa HKe HX6 HK6
            go_wp2_with (at_builtin; refine wpList_app1R (q := ((⟨di, dg, dA, dn, dc, dl⟩, ⟨fi, fg, fA, fn, fc, fl⟩) : Rg)) rfl _ _ rfl rfl rfl HI.out.row hw2 HBb.out (HI.out.row.apart hw2 (Nat.le_refl _) HQ.out) HMx.out ?_; intro A8 c8 w8 hr8 hb8 hs8; have HN8 := Lib.hid (show PH w2 z qs (k + 1) A8 c8 (rs ++ [((⟨di, dg, dA, dn, dc, dl⟩, ⟨fi, fg, fA, fn, fc, fl⟩) : Rg)]) w8 from ⟨HI.out.bel.trans hb8, hr8, fun q hq => (List.mem_append.1 hq).elim (HI.out.gd q) (fun h => by rw [List.mem_singleton.1 h]; exact HGq.out), eds_add HI.out.eds HPq.out HEq.out⟩); clear hr8 hb8 hs8)
            go_roundw
            case rel => exact ⟨k + 1, A8, c8, _, by omega, by go_num, rfl, HN8⟩
            case measure => simp [intOf]; omega

      · have hsl : sg < 0 := by omega
        clear hs1
        have hset := HX.out.set6 ((⟨p2i, p2g, p2A, p2n, p2c, p2l⟩, ⟨p1i, p1g, p1A, p1n, p1c, p1l⟩) : Rg)
        simp only at hset
        go_upto_region 16 with fail
        obtain ⟨w6, hw6⟩ : ∃ w6, (((((w5.setCell ⟨wr.heap.size, 0, none⟩ (.int .i64 p2i)).setCell ⟨wr.heap.size, 1, none⟩ (.bool p2g)).setCell ⟨wr.heap.size, 2, none⟩ (.slice p2A p2n p2c)).setCell ⟨wr.heap.size, 3, none⟩ (.int .i64 p1i)).setCell ⟨wr.heap.size, 4, none⟩ (.bool p1g)).setCell ⟨wr.heap.size, 5, none⟩ (.slice p1A p1n p1c) = w6 := ⟨_, rfl⟩
        rw [hw6] at hset
        have HX6 := Lib.hid (show RBox w6 wr.heap.size ((⟨p2i, p2g, p2A, p2n, p2c, p2l⟩, ⟨p1i, p1g, p1A, p1n, p1c, p1l⟩) : Rg) ∧ Below wr.heap.size wr w6 from ⟨hset.1, HBx.out.grown hset.2 HBx.out.size (fun j e => by injection e with e; omega)⟩)
        obtain ⟨ea, hea⟩ : ∃ x, Bd.ed ⟨p2i, p2g, p2A, p2n, p2c, p2l⟩ = x := ⟨_, rfl⟩
        obtain ⟨ee, hee⟩ : ∃ x, Bd.ed ⟨p1i, p1g, p1A, p1n, p1c, p1l⟩ = x := ⟨_, rfl⟩
        have HEa := Lib.hid hea
        have HEe := Lib.hid hee
        have HE6 := Lib.hid (show paD z (edsR ((⟨p1i, p1g, p1A, p1n, p1c, p1l⟩, ⟨p2i, p2g, p2A, p2n, p2c, p2l⟩) : Rg)) = (upD z ea, dnD z ee) from by unfold paD paR; rw [if_neg (by omega), ← hea, ← hee]; rfl)
        have HK6 := Lib.hid (And.intro (And.intro HKp.out.b HKp.out.a) (And.intro HGd.out.1.2 HGd.out.1.1))
        have HS6 := Lib.hid (show (p2n ≤ M ∧ p1n ≤ M) ∧ szE ea ≤ M ∧ szE ee ≤ M from by rw [← hea, ← hee]; exact ⟨⟨HM1.out.2, HM1.out.1⟩, HSz.out.2, HSz.out.1⟩)
        obtain ⟨P0, hP0⟩ : ∃ P0 : Rg, (⟨p1i, p1g, p1A, p1n, p1c, p1l⟩, ⟨p2i, p2g, p2A, p2n, p2c, p2l⟩) = P0 := ⟨_, rfl⟩
        rw [hP0] at HE6 HPq
        clear hea hee hP0
        rw [hw6]
        clear hw6 hset x0 x1 x2 x3 x4 x5 f0 f1 f2 f3 f4 f5 HX HBx HKp HGd HM1 HSz hzn
        refine wp_region_U 7 (by kernel_rfl) (fun z9 K0 hs0 => ?_)
        refine tkW 0 (v := ?tv0_5) K0 rfl (by kernel_rfl) ?tq0_5 (by kernel_rfl) (fun z5 hS => ?ty0_5) ?_
        case ty0_5 => go_simp; rfl
        case tq0_5 => exact fun _ _ _ h => h
        refine tkW 1 (v := ?tv1_6) K0 rfl (by kernel_rfl) ?tq1_6 (by kernel_rfl) (fun z5 hS => ?ty1_6) ?_
        case ty1_6 => obtain ⟨x0, x1, x2, x3, x4, x5⟩ := (HX6.out.1.below hS).cells; simp only at x0 x1 x2 x3 x4 x5; go_simp; rfl
        case tq1_6 => exact fun _ _ _ h => h
        refine tkW 2 (v := ?tv2_7) K0 rfl (by kernel_rfl) ?tq2_7 (by kernel_rfl) (fun z5 hS => ?ty2_7) ?_
        case ty2_7 => go_simp; rfl
        case tq2_7 => exact fun _ _ _ h => h
        refine tkW 3 (v := ?tv3_8) K0 rfl (by kernel_rfl) ?tq3_8 (by kernel_rfl) (fun z5 hS => ?ty3_8) ?_
        case ty3_8 => obtain ⟨x0, x1, x2, x3, x4, x5⟩ := (HX6.out.1.below hS).cells; simp only at x0 x1 x2 x3 x4 x5; go_simp; rfl
        case tq3_8 => exact fun _ _ _ h => h
        clear hs0
        apply merge3 (F := fun u U D => Hid (TwoB w6 (ib 0) (ib 0) u U D))
        · intro key
          refine wpAnyW_two (i := 4) (i2 := 5) (by kernel_rfl) rfl rfl (fun K hK => ?_) (fun K hK => ?_)
          · go_simp
            have hb : Below z9.heap.size z9 (z9.alloc (.cells #[.int .i64 0, .bool false, .slice none 0 0] 67)) := (Below.refl _ _).alloc (Nat.le_refl _) _
            have HX1 := Lib.hid (show EBox (z9.alloc (.cells #[.int .i64 0, .bool false, .slice none 0 0] 67)) z9.heap.size (ib 0) from EBox.new z9 (ib 0))
            have KK := Lib.hid (K0.trans (hb.mono K0.size))
            have hU := K0.size
            clear hb
            refine hK.out _ _ (fun _ => KK.out) ?_
            generalize (z9.alloc (.cells #[.int .i64 0, .bool false, .slice none 0 0] 67)) = v9 at *
            generalize z9.heap.size = U at *
            refine wpAnyW_one (i := 5) (by kernel_rfl) rfl (fun K hK => ?_)
            go_simp
            have hb : Below v9.heap.size v9 (v9.alloc (.cells #[.int .i64 0, .bool false, .slice none 0 0] 67)) := (Below.refl _ _).alloc (Nat.le_refl _) _
            have HY1 := Lib.hid (show EBox (v9.alloc (.cells #[.int .i64 0, .bool false, .slice none 0 0] 67)) v9.heap.size (ib 0) from EBox.new v9 (ib 0))
            have HX2 := Lib.hid (HX1.out.below hb)
            have KK2 := Lib.hid (KK.out.trans (hb.mono KK.out.size))
            have hlt := HX1.out.lt
            have hDl := KK.out.size
            clear hb
            refine hK.out _ _ (fun _ => KK2.out) ?_
            generalize (v9.alloc (.cells #[.int .i64 0, .bool false, .slice none 0 0] 67)) = va at *
            generalize v9.heap.size = D at *
            exact key va U D (Lib.hid ⟨KK2.out, HX2.out, HY1.out, by omega, hU, hDl⟩)
          · go_simp
            have hb : Below z9.heap.size z9 (z9.alloc (.cells #[.int .i64 0, .bool false, .slice none 0 0] 67)) := (Below.refl _ _).alloc (Nat.le_refl _) _
            have HX1 := Lib.hid (show EBox (z9.alloc (.cells #[.int .i64 0, .bool false, .slice none 0 0] 67)) z9.heap.size (ib 0) from EBox.new z9 (ib 0))
            have KK := Lib.hid (K0.trans (hb.mono K0.size))
            have hU := K0.size
            clear hb
            refine hK.out _ _ (fun _ => KK.out) ?_
            generalize (z9.alloc (.cells #[.int .i64 0, .bool false, .slice none 0 0] 67)) = v9 at *
            generalize z9.heap.size = D at *
            refine wpAnyW_one (i := 4) (by kernel_rfl) rfl (fun K hK => ?_)
            go_simp
            have hb : Below v9.heap.size v9 (v9.alloc (.cells #[.int .i64 0, .bool false, .slice none 0 0] 67)) := (Below.refl _ _).alloc (Nat.le_refl _) _
            have HY1 := Lib.hid (show EBox (v9.alloc (.cells #[.int .i64 0, .bool false, .slice none 0 0] 67)) v9.heap.size (ib 0) from EBox.new v9 (ib 0))
            have HX2 := Lib.hid (HX1.out.below hb)
            have KK2 := Lib.hid (KK.out.trans (hb.mono KK.out.size))
            have hlt := HX1.out.lt
            have hDl := KK.out.size
            clear hb
            refine hK.out _ _ (fun _ => KK2.out) ?_
            generalize (v9.alloc (.cells #[.int .i64 0, .bool false, .slice none 0 0] 67)) = va at *
            generalize v9.heap.size = U at *
            exact key va U D (Lib.hid ⟨KK2.out, HY1.out, HX2.out, by omega, hDl, hU⟩)
        intro va U D HT
        obtain ⟨y0, y1, y2⟩ := HT.out.ub.cells
        obtain ⟨f0, f1, f2⟩ := HT.out.ub.frozens
        simp only [ib] at y0 y1 y2
        refine wpAnyW_one (i := 6) (by kernel_rfl) rfl (fun K hK => ?_)
        go_simp
        clear y0 y1 y2 f0 f1 f2
        have HTU := Lib.hid (HT.out.setU (⟨p2i, p2g, p2A, p2n, p2c, p2l⟩ : Bd)).1
        simp only at HTU
        refine hK.out _ _ (fun _ => HTU.out.bel) ?_
        generalize ((va.setCell ⟨U, 0, none⟩ (.int .i64 p2i)).setCell ⟨U, 1, none⟩ (.bool p2g)).setCell ⟨U, 2, none⟩ (.slice p2A p2n p2c) = vb at *
        clear HT
        obtain ⟨y0, y1, y2⟩ := HTU.out.db.cells
        obtain ⟨f0, f1, f2⟩ := HTU.out.db.frozens
        simp only [ib] at y0 y1 y2
        refine wpAnyW_one (i := 7) (by kernel_rfl) rfl (fun K hK => ?_)
        go_simp
        clear y0 y1 y2 f0 f1 f2
        have HT0 := Lib.hid (HTU.out.setD (⟨p1i, p1g, p1A, p1n, p1c, p1l⟩ : Bd)).1
        simp only at HT0
        refine hK.out _ _ (fun h => absurd h (by simp)) ?_
        refine wpAnyW_done (by kernel_rfl) ?_ _
        generalize ((vb.setCell ⟨D, 0, none⟩ (.int .i64 p1i)).setCell ⟨D, 1, none⟩ (.bool p1g)).setCell ⟨D, 2, none⟩ (.slice p1A p1n p1c) = u0 at *
        clear HTU
        have HBu := Lib.hid (show Below wr.heap.size wr u0 from HX6.out.2.trans (HT0.out.bel.mono HX6.out.2.size))
        have HUD := Lib.hid (show wr.heap.size ≤ U ∧ wr.heap.size ≤ D from by have := HX6.out.2.size; have := HT0.out.ul; have := HT0.out.dl; omega)
        have HIi := Lib.hid (show ∀ u, Below wr.heap.size wr u → IBox u (B + 1) g (.slice A' n' c') from fun u hu => (hu.block (B + 1) (by have := HG4.out; omega)).trans ((HI.out.bel.block (B + 1) (by have := HG4.out; omega)).trans HI2.out))
        have HLi := Lib.hid (show ∀ u, Below wr.heap.size wr u → LimP u (fun x => x < u.heap.size) A' n' c' l from fun u hu => HL2.out.keep (fun x hx => ⟨by have := hu.size; omega, (hu.block x (by omega)).trans (HI.out.bel.block x hx)⟩))
        have HKa := Lib.hid (show ∀ u, Below wr.heap.size wr u → Bd.At u (fun x => x < u.heap.size) ⟨p2i, p2g, p2A, p2n, p2c, p2l⟩ from fun u hu => HK6.out.1.1.keep (fun x hx => ⟨by have := hu.size; omega, (hu.block x (by omega)).trans (HI.out.bel.block x hx)⟩))
        have HKe := Lib.hid (show ∀ u, Below wr.heap.size wr u → Bd.At u (fun x => x < u.heap.size) ⟨p1i, p1g, p1A, p1n, p1c, p1l⟩ from fun u hu => HK6.out.1.2.keep (fun x hx => ⟨by have := hu.size; omega, (hu.block x (by omega)).trans (HI.out.bel.block x hx)⟩))
        by_cases hai : p2i = 0
        · subst hai
          have hgt : wr.heap.size < u0.heap.size := by have := HT0.out.ub.lt; have := HUD.out; omega
          obtain ⟨y0, y1, y2⟩ := HT0.out.ub.cells
          obtain ⟨n0, n1'⟩ := (HIi.out u0 HBu.out).cells
          simp only at y0 y1 y2
          obtain ⟨x, hx⟩ : ∃ x, ival p2g p2l = x := ⟨_, rfl⟩
          have HXe := Lib.hid (show ea = .num x from by rw [← HEa.out, Bd.ed_zero rfl]; show Ed.num (ival p2g p2l) = _; rw [hx])
          have HDm := Lib.hid (dm_ok (w := u0) (HKa.out u0 HBu.out).lim (HLi.out u0 HBu.out) (fun x hx => hx) (by have := HS6.out.1.1; have := HKM.out.2.1; simp only; omega) HKM.out.2.2 hx HV.out HZ0.out)
          obtain ⟨z1, hz1⟩ : ∃ z1, dvD x z = z1 := ⟨_, rfl⟩
          obtain ⟨z2, hz2⟩ : ∃ z2, dvM x z = z2 := ⟨_, rfl⟩
          simp only at HDm
          rw [hz1, hz2] at HDm
          go_upto_region 20 with (go_at_call 63; (with_reducible refine HDm.out.mono ?_); rintro e u1 ⟨A4, c4, A5, c5, rfl, hat4, hat5, hb1⟩; have HT1 := Lib.hid (HT0.out.below hb1); have HA4 := Lib.hid (hat4.toBh (lo := wr.heap.size) (U := U) (D := D) (by omega) HT0.out.ub.lt HT0.out.db.lt); have HA5 := Lib.hid (hat5.toBh (lo := wr.heap.size) (U := U) (D := D) (by omega) HT0.out.ub.lt HT0.out.db.lt); have HB1 := Lib.hid (HBu.out.trans (hb1.mono (by have := HBu.out.size; omega))); clear hat4 hat5 hb1 y0 y1 y2 n0 n1')
          clear HDm
          generalize hq1 : u1.alloc (.cells #[.bool (decide (z1 < 0)), .slice A4 (digs W z1.natAbs).length c4] 56) = u2 at *
          have h12 : Below u1.heap.size u1 u2 := by rw [← hq1]; exact (Below.refl _ _).alloc (Nat.le_refl _) _
          have HQ2 := Lib.hid (show IBox u2 u1.heap.size (decide (z1 < 0)) (.slice A4 (digs W z1.natAbs).length c4) from by rw [← hq1]; exact IBox.of_alloc)
          generalize hq2 : u2.alloc (.cells #[.bool (decide (z2 < 0)), .slice A5 (digs W z2.natAbs).length c5] 56) = u3 at *
          have h23 : Below u2.heap.size u2 u3 := by rw [← hq2]; exact (Below.refl _ _).alloc (Nat.le_refl _) _
          have hu2 : u2.heap.size = u1.heap.size + 1 := by rw [← hq1]; simp
          have HR3 := Lib.hid (show IBox u3 (u1.heap.size + 1) (decide (z2 < 0)) (.slice A5 (digs W z2.natAbs).length c5) from by rw [← hq2, ← hu2]; exact IBox.of_alloc)
          have HQ3 := Lib.hid (HQ2.out.below h23)
          have HT3 := Lib.hid ((HT1.out.below h12).below h23)
          have HA43 := Lib.hid ((HA4.out.bh h12).bh h23)
          have HA53 := Lib.hid ((HA5.out.bh h12).bh h23)
          have HB3 := Lib.hid ((HB1.out.trans (h12.mono HB1.out.size)).trans (h23.mono (by have := HB1.out.size; have := h12.size; omega)))
          have HN3 := Lib.hid (show U ≠ u1.heap.size + 1 ∧ D ≠ u1.heap.size + 1 from by have := HT1.out.ub.lt; have := HT1.out.db.lt; have := h12.size; omega)
          have HSr0 := Lib.hid (fun (u : World) (hA : (nb z2 A5 c5).At u (Bh wr.heap.size U D u)) => show Calls Tryz.prog 21 #[.agg #[.bool (decide (z2 < 0)), .slice A5 (digs W z2.natAbs).length c5]] u (fun e w' => e = .returned (.int .i64 z2.sign) ∧ Gr u w') from by
            have hh := sign_gr (decide (z2 < 0)) (w := u) (B := u.heap.size) (hA.lim.sl (fun x hx => hx.1.2)) (Nat.le_refl _)
            simp only [nb] at hh
            rw [ival_digs] at hh
            exact hh)
          clear HQ2 HT1 HA4 HA5 HB1 h12 h23 hq1 hq2 HT0 HBu hu2
          generalize u1.heap.size = gq at *
          generalize decide (z2 < 0) = rb at *
          generalize (digs W z2.natAbs).length = rn at *
          obtain ⟨m0, m1⟩ := HQ3.out.cells
          obtain ⟨y0, y1, y2⟩ := HT3.out.ub.cells
          obtain ⟨f0, f1, f2⟩ := HT3.out.ub.frozens
          simp only at y0 y1 y2
          have hs4 := HT3.out.u2 (decide (z1 < 0)) A4 (digs W z1.natAbs).length c4 (digs W z1.natAbs)
          simp only at hs4
          go_upto_region 21 with fail
          clear m0 m1 y0 y1 y2 f0 f1 f2
          generalize (u3.setCell ⟨U, 1, none⟩ (.bool (decide (z1 < 0)))).setCell ⟨U, 2, none⟩ (.slice A4 (digs W z1.natAbs).length c4) = u4 at *
          have HT4 := Lib.hid hs4.1
          have HA44 := Lib.hid (HA43.out.bhU hs4.2)
          have HA54 := Lib.hid (HA53.out.bhU hs4.2)
          have HR4 := Lib.hid (HR3.out.gro hs4.2 (fun e => HN3.out.1 e.symm))
          have HB4 := Lib.hid (HB3.out.grown hs4.2 HB3.out.size (fun j e => by injection e with e; have := HUD.out; omega))
          clear hs4 HT3 HA43 HA53 HR3 HQ3 HB3
          obtain ⟨m0, m1⟩ := HR4.out.cells
          have HSr := Lib.hid (HSr0.out u4 HA54.out)
          clear HSr0
          have HZl := Lib.hid (show (digs W z1.natAbs).length ≤ M from by
            rw [← hz1]
            have h1 := HS6.out.2.1
            rw [HXe.out] at h1
            exact len_dv (x := x) h1 HZ0.out)
          by_cases hz20 : z2 = 0
          · rw [show z2.sign = 0 by rw [hz20]; rfl] at HSr

            go_upto_region 23 with (go_at_call 21; (with_reducible refine HSr.out.mono ?_); rintro e u9 ⟨rfl, hg5⟩; have HT9 := Lib.hid (HT4.out.below hg5.bel); have HA9 := Lib.hid (HA44.out.bh hg5.bel); have HB9 := Lib.hid (HB4.out.trans (hg5.bel.mono HB4.out.size)); clear hg5)
            have HN9 := Lib.hid (show Bd.Nrm ⟨0, decide (z1 < 0), A4, (digs W z1.natAbs).length, c4, digs W z1.natAbs⟩ from nb_nrm z1 A4 c4)
            have HE9 := Lib.hid (show Bd.ed ⟨0, decide (z1 < 0), A4, (digs W z1.natAbs).length, c4, digs W z1.natAbs⟩ = upD z ea from by
              rw [HXe.out]
              simp only [upD, upE]
              rw [hz2, if_neg (by simp [hz20]), hz1]
              exact nb_ed z1 A4 c4)
            simp only [nb] at HA9
            clear HT4 HA44 HA54 HR4 HB4 HSr m0 m1 hx hz1 hz2 hz20 HZl
            generalize decide (z1 < 0) = dg at *
            generalize (digs W z1.natAbs).length = dn at *
            generalize digs W z1.natAbs = dl at *
            generalize A4 = dA at *
            generalize c4 = dc at *
            by_cases hei : p1i = 0
            · subst hei
              obtain ⟨x, hx⟩ : ∃ x, ival p1g p1l = x := ⟨_, rfl⟩
              have HXf := Lib.hid (show ee = .num x from by rw [← HEe.out, Bd.ed_zero rfl]; show Ed.num (ival p1g p1l) = _; rw [hx])
              have HDm := Lib.hid (dm_ok (w := u9) (HKe.out u9 HB9.out).lim (HLi.out u9 HB9.out) (fun x hx => hx) (by have := HS6.out.1.2; have := HKM.out.2.1; simp only; omega) HKM.out.2.2 hx HV.out HZ0.out)
              obtain ⟨z3, hz3⟩ : ∃ z3, dvD x z = z3 := ⟨_, rfl⟩
              obtain ⟨z4, hz4⟩ : ∃ z4, dvM x z = z4 := ⟨_, rfl⟩
              simp only at HDm
              rw [hz3, hz4] at HDm
              obtain ⟨y0, y1, y2⟩ := HT9.out.db.cells
              obtain ⟨n0, n1'⟩ := (HIi.out u9 HB9.out).cells
              simp only at y0 y1 y2
              go_upto_region 26 with (go_at_call 63; (with_reducible refine HDm.out.mono ?_); rintro e ua ⟨A6, c6, A7, c7, rfl, hat6, _, hba⟩; have HTa := Lib.hid (HT9.out.below hba); have HAa := Lib.hid (HA9.out.bh hba); have HFa := Lib.hid (hat6.toBh (lo := wr.heap.size) (U := U) (D := D) HB9.out.size HT9.out.ub.lt HT9.out.db.lt); have HBa := Lib.hid (HB9.out.trans (hba.mono HB9.out.size)); clear hat6 hba y0 y1 y2 n0 n1'; obtain ⟨y0, y1, y2⟩ := HTa.out.db.cells; obtain ⟨f0, f1, f2⟩ := HTa.out.db.frozens; simp only at y0 y1 y2)
              clear HDm y0 y1 y2 f0 f1 f2 HT9 HA9 HB9
              have hsb := HTa.out.d2 (decide (z3 < 0)) A6 (digs W z3.natAbs).length c6 (digs W z3.natAbs)
              simp only at hsb
              generalize (ua.setCell ⟨D, 1, none⟩ (.bool (decide (z3 < 0)))).setCell ⟨D, 2, none⟩ (.slice A6 (digs W z3.natAbs).length c6) = ub at *
              have HTb := Lib.hid hsb.1
              have HAb := Lib.hid (HAa.out.bhD hsb.2)
              have HFb := Lib.hid (HFa.out.bhD hsb.2)
              have HBb := Lib.hid (HBa.out.grown hsb.2 HBa.out.size (fun j e => by injection e with e; have := HUD.out; omega))
              have HNf9 := Lib.hid (show Bd.Nrm ⟨0, decide (z3 < 0), A6, (digs W z3.natAbs).length, c6, digs W z3.natAbs⟩ from nb_nrm z3 A6 c6)
              have HEf9 := Lib.hid (show Bd.ed ⟨0, decide (z3 < 0), A6, (digs W z3.natAbs).length, c6, digs W z3.natAbs⟩ = dnD z ee from by
                rw [HXf.out]
                simp only [dnD, downE]
                rw [hz3]
                exact nb_ed z3 A6 c6)
              simp only [nb] at HFb
              clear hsb HTa HAa HFa HBa hx hz3 hz4
              generalize decide (z3 < 0) = fg at *
              generalize (digs W z3.natAbs).length = fn at *
              generalize digs W z3.natAbs = fl at *
              generalize A6 = fA at *
              generalize c6 = fc at *
              have hd1 : True := trivial
              clear hd1
              obtain ⟨y0, y1, y2⟩ := HTb.out.ub.cells
              obtain ⟨t0, t1, t2⟩ := HTb.out.db.cells
              simp only at y0 y1 y2 t0 t1 t2
              have HQ := Lib.hid (show Rg.At ub (fun x => wr.heap.size ≤ x ∧ x < ub.heap.size) ((⟨0, dg, dA, dn, dc, dl⟩, ⟨0, fg, fA, fn, fc, fl⟩) : Rg) from ⟨HAb.out.wide (fun x hx => hx.1), HFb.out.wide (fun x hx => hx.1)⟩)
              have HMx := Lib.hid (show k + 1 ≤ maxRg from by unfold maxRg; omega)
              have HEq := Lib.hid (show edsR ((⟨0, dg, dA, dn, dc, dl⟩, ⟨0, fg, fA, fn, fc, fl⟩) : Rg) = paD z (edsR P0) from by
                rw [HE6.out]
                unfold edsR
                rw [HE9.out, HEf9.out])
              have HGq := Lib.hid (show Gd ((⟨0, dg, dA, dn, dc, dl⟩, ⟨0, fg, fA, fn, fc, fl⟩) : Rg) from Gd.mk' HQ.out HN9.out HNf9.out
                (by rw [HE9.out]; refine Nat.le_trans (szE_up HS6.out.2.1 HZ0.out) ?_; have := HKM.out.2.1; omega) (by rw [HEf9.out]; refine Nat.le_trans (szE_dn HS6.out.2.2 HZ0.out) ?_; have := HKM.out.2.1; omega))
              clear HIi HLi HKa HKe HX6 HK6
              go_wp2_with (at_builtin; refine wpList_app1R (q := ((⟨0, dg, dA, dn, dc, dl⟩, ⟨0, fg, fA, fn, fc, fl⟩) : Rg)) rfl _ _ rfl rfl rfl HI.out.row hw2 HBb.out (HI.out.row.apart hw2 (Nat.le_refl _) HQ.out) HMx.out ?_; intro A8 c8 w8 hr8 hb8 hs8; have HN8 := Lib.hid (show PH w2 z qs (k + 1) A8 c8 (rs ++ [((⟨0, dg, dA, dn, dc, dl⟩, ⟨0, fg, fA, fn, fc, fl⟩) : Rg)]) w8 from ⟨HI.out.bel.trans hb8, hr8, fun q hq => (List.mem_append.1 hq).elim (HI.out.gd q) (fun h => by rw [List.mem_singleton.1 h]; exact HGq.out), eds_add HI.out.eds HPq.out HEq.out⟩); clear hr8 hb8 hs8)
              go_roundw
              case rel => exact ⟨k + 1, A8, c8, _, by omega, by go_num, rfl, HN8⟩
              case measure => simp [intOf]; omega
            · obtain ⟨fi, hfi⟩ : ∃ q, p1i * sg = q := ⟨_, rfl⟩
              have heib : (p1i == 0) = false := beq_eq_false_iff_ne.2 hei
              have HIt := Lib.hid (fun (y : World) => inf_turn (w' := y) (Q := Bh wr.heap.size U D y) (HKe.out u9 HB9.out) HK6.out.2.2 hei HZ.out)
              have hwr : IntKind.i64.wrap fi = fi := by
                obtain ⟨q, h1, _⟩ := HIt.out u9
                simp only at h1
                rw [hfi] at h1
                rw [h1]
                exact wrap_same h1 hfi HK6.out.2.2 hei HZ.out
              obtain ⟨y0, y1, y2⟩ := HT9.out.db.cells
              obtain ⟨f0, f1, f2⟩ := HT9.out.db.frozens
              simp only at y0 y1 y2
              have hsb := HT9.out.d0 fi
              simp only at hsb
              go_upto_region 26 with fail
              clear y0 y1 y2 f0 f1 f2
              generalize (u9.setCell ⟨D, 0, none⟩ (.int .i64 fi)) = ub at *
              have HTb := Lib.hid hsb.1
              have HI9 := Lib.hid (show (⟨fi, p1g, p1A, p1n, p1c, p1l⟩ : Bd).At ub (Bh wr.heap.size U D ub) ∧ (⟨fi, p1g, p1A, p1n, p1c, p1l⟩ : Bd).Nrm ∧ (⟨fi, p1g, p1A, p1n, p1c, p1l⟩ : Bd).ed = dnD z ee from by
                obtain ⟨q, h1, h2, h3, _, h4⟩ := HIt.out ub
                simp only at h1 h2 h3 h4
                rw [HEe.out] at h4
                rw [hfi, hwr] at h1
                subst h1
                exact ⟨h2, h3, h4⟩)
              have HFb := Lib.hid HI9.out.1
              have HNf9 := Lib.hid HI9.out.2.1
              have HEf9 := Lib.hid HI9.out.2.2
              have HAb := Lib.hid (HA9.out.bhD hsb.2)
              have HBb := Lib.hid (HB9.out.grown hsb.2 HB9.out.size (fun j e => by injection e with e; have := HUD.out; omega))
              clear hsb HIt HI9 hfi hwr heib HB9 HT9 HA9
              clear HEe
              generalize p1g = fg at HTb HFb HNf9 HEf9
              generalize p1A = fA at HTb HFb HNf9 HEf9
              generalize p1n = fn at HTb HFb HNf9 HEf9
              generalize p1c = fc at HTb HFb HNf9 HEf9
              generalize p1l = fl at HTb HFb HNf9 HEf9
              obtain ⟨y0, y1, y2⟩ := HTb.out.ub.cells
              obtain ⟨t0, t1, t2⟩ := HTb.out.db.cells
              simp only at y0 y1 y2 t0 t1 t2
              have HQ := Lib.hid (show Rg.At ub (fun x => wr.heap.size ≤ x ∧ x < ub.heap.size) ((⟨0, dg, dA, dn, dc, dl⟩, ⟨fi, fg, fA, fn, fc, fl⟩) : Rg) from ⟨HAb.out.wide (fun x hx => hx.1), HFb.out.wide (fun x hx => hx.1)⟩)
              have HMx := Lib.hid (show k + 1 ≤ maxRg from by unfold maxRg; omega)
              have HEq := Lib.hid (show edsR ((⟨0, dg, dA, dn, dc, dl⟩, ⟨fi, fg, fA, fn, fc, fl⟩) : Rg) = paD z (edsR P0) from by
                rw [HE6.out]
                unfold edsR
                rw [HE9.out, HEf9.out])
              have HGq := Lib.hid (show Gd ((⟨0, dg, dA, dn, dc, dl⟩, ⟨fi, fg, fA, fn, fc, fl⟩) : Rg) from Gd.mk' HQ.out HN9.out HNf9.out
                (by rw [HE9.out]; refine Nat.le_trans (szE_up HS6.out.2.1 HZ0.out) ?_; have := HKM.out.2.1; omega) (by rw [HEf9.out]; refine Nat.le_trans (szE_dn HS6.out.2.2 HZ0.out) ?_; have := HKM.out.2.1; omega))
              clear HIi HLi HKa HKe HX6 HK6
              go_wp2_with (at_builtin; refine wpList_app1R (q := ((⟨0, dg, dA, dn, dc, dl⟩, ⟨fi, fg, fA, fn, fc, fl⟩) : Rg)) rfl _ _ rfl rfl rfl HI.out.row hw2 HBb.out (HI.out.row.apart hw2 (Nat.le_refl _) HQ.out) HMx.out ?_; intro A8 c8 w8 hr8 hb8 hs8; have HN8 := Lib.hid (show PH w2 z qs (k + 1) A8 c8 (rs ++ [((⟨0, dg, dA, dn, dc, dl⟩, ⟨fi, fg, fA, fn, fc, fl⟩) : Rg)]) w8 from ⟨HI.out.bel.trans hb8, hr8, fun q hq => (List.mem_append.1 hq).elim (HI.out.gd q) (fun h => by rw [List.mem_singleton.1 h]; exact HGq.out), eds_add HI.out.eds HPq.out HEq.out⟩); clear hr8 hb8 hs8)
              go_roundw
              case rel => exact ⟨k + 1, A8, c8, _, by omega, by go_num, rfl, HN8⟩
              case measure => simp [intOf]; omega
          · obtain ⟨s2, hs2⟩ : ∃ s, z2.sign = s := ⟨_, rfl⟩
            have hs20 : (s2 == 0) = false := beq_eq_false_iff_ne.2 (fun h => hz20 (Int.sign_eq_zero_iff_zero.1 (hs2.trans h)))
            rw [hs2] at HSr
            clear hs2
            go_upto_region 22 with (go_at_call 21; (with_reducible refine HSr.out.mono ?_); rintro e u5 ⟨rfl, hg5⟩; have HT5 := Lib.hid (HT4.out.below hg5.bel); have HA5 := Lib.hid (HA44.out.bh hg5.bel); have HB5 := Lib.hid (HB4.out.trans (hg5.bel.mono HB4.out.size)); clear hg5)
            have HSt := Lib.hid (step_fr (w := u5) (b := nb z1 A4 c4) 1 (.inl rfl) HA5.out (fun x hx => hx.1.2) (.inr (.inl rfl)) (fun h => absurd rfl h) (by simp only [nb]; have := HZl.out; have := HKM.out.2.1; omega))
            have HE0 := Lib.hid (show shE 1 (nb z1 A4 c4).ed = upD z ea from by
              rw [HXe.out, nb_ed]
              simp only [upD, upE]
              rw [hz2, if_pos hz20, hz1]
              rfl)
            unfold StepFr at HSt
            rw [HE0.out] at HSt
            simp only [Bd.v, Bd.vals, nb] at HSt
            clear HT4 HA44 HA54 HR4 HB4 HSr m0 m1 HA5 HE0
            obtain ⟨y0, y1, y2⟩ := HT5.out.ub.cells
            simp only at y0 y1 y2
            go_upto_region 23 with (go_at_call 64; (with_reducible refine HSt.out.mono ?_); rintro e u6 ⟨⟨di, dg, dA, dn, dc, dl⟩, rfl, hat6, hnr6, hed6, hb6⟩; have HT6 := Lib.hid (HT5.out.below hb6); have HA6 := Lib.hid (hat6.toBh (lo := wr.heap.size) (U := U) (D := D) HB5.out.size HT5.out.ub.lt HT5.out.db.lt); have HB6 := Lib.hid (HB5.out.trans (hb6.mono HB5.out.size)); have HN9 := Lib.hid hnr6; have HE9 := Lib.hid hed6; clear hat6 hnr6 hed6 hb6 y0 y1 y2; obtain ⟨y0, y1, y2⟩ := HT6.out.ub.cells; obtain ⟨f0, f1, f2⟩ := HT6.out.ub.frozens; simp only at y0 y1 y2)
            clear HSt HT5 HB5 y0 y1 y2 f0 f1 f2
            have hs9 := HT6.out.setU (⟨di, dg, dA, dn, dc, dl⟩ : Bd)
            simp only at hs9
            generalize ((u6.setCell ⟨U, 0, none⟩ (.int .i64 di)).setCell ⟨U, 1, none⟩ (.bool dg)).setCell ⟨U, 2, none⟩ (.slice dA dn dc) = u9 at *
            have HT9 := Lib.hid hs9.1
            have HA9 := Lib.hid (HA6.out.bhU hs9.2)
            have HB9 := Lib.hid (HB6.out.grown hs9.2 HB6.out.size (fun j e => by injection e with e; have := HUD.out; omega))
            clear hs9 HT6 HA6 HB6 hx hz1 hz2 hz20 hs20 HZl
            by_cases hei : p1i = 0
            · subst hei
              obtain ⟨x, hx⟩ : ∃ x, ival p1g p1l = x := ⟨_, rfl⟩
              have HXf := Lib.hid (show ee = .num x from by rw [← HEe.out, Bd.ed_zero rfl]; show Ed.num (ival p1g p1l) = _; rw [hx])
              have HDm := Lib.hid (dm_ok (w := u9) (HKe.out u9 HB9.out).lim (HLi.out u9 HB9.out) (fun x hx => hx) (by have := HS6.out.1.2; have := HKM.out.2.1; simp only; omega) HKM.out.2.2 hx HV.out HZ0.out)
              obtain ⟨z3, hz3⟩ : ∃ z3, dvD x z = z3 := ⟨_, rfl⟩
              obtain ⟨z4, hz4⟩ : ∃ z4, dvM x z = z4 := ⟨_, rfl⟩
              simp only at HDm
              rw [hz3, hz4] at HDm
              obtain ⟨y0, y1, y2⟩ := HT9.out.db.cells
              obtain ⟨n0, n1'⟩ := (HIi.out u9 HB9.out).cells
              simp only at y0 y1 y2
              go_upto_region 26 with (go_at_call 63; (with_reducible refine HDm.out.mono ?_); rintro e ua ⟨A6, c6, A7, c7, rfl, hat6, _, hba⟩; have HTa := Lib.hid (HT9.out.below hba); have HAa := Lib.hid (HA9.out.bh hba); have HFa := Lib.hid (hat6.toBh (lo := wr.heap.size) (U := U) (D := D) HB9.out.size HT9.out.ub.lt HT9.out.db.lt); have HBa := Lib.hid (HB9.out.trans (hba.mono HB9.out.size)); clear hat6 hba y0 y1 y2 n0 n1'; obtain ⟨y0, y1, y2⟩ := HTa.out.db.cells; obtain ⟨f0, f1, f2⟩ := HTa.out.db.frozens; simp only at y0 y1 y2)
              clear HDm y0 y1 y2 f0 f1 f2 HT9 HA9 HB9
              have hsb := HTa.out.d2 (decide (z3 < 0)) A6 (digs W z3.natAbs).length c6 (digs W z3.natAbs)
              simp only at hsb
              generalize (ua.setCell ⟨D, 1, none⟩ (.bool (decide (z3 < 0)))).setCell ⟨D, 2, none⟩ (.slice A6 (digs W z3.natAbs).length c6) = ub at *
              have HTb := Lib.hid hsb.1
              have HAb := Lib.hid (HAa.out.bhD hsb.2)
              have HFb := Lib.hid (HFa.out.bhD hsb.2)
              have HBb := Lib.hid (HBa.out.grown hsb.2 HBa.out.size (fun j e => by injection e with e; have := HUD.out; omega))
              have HNf9 := Lib.hid (show Bd.Nrm ⟨0, decide (z3 < 0), A6, (digs W z3.natAbs).length, c6, digs W z3.natAbs⟩ from nb_nrm z3 A6 c6)
              have HEf9 := Lib.hid (show Bd.ed ⟨0, decide (z3 < 0), A6, (digs W z3.natAbs).length, c6, digs W z3.natAbs⟩ = dnD z ee from by
                rw [HXf.out]
                simp only [dnD, downE]
                rw [hz3]
                exact nb_ed z3 A6 c6)
              simp only [nb] at HFb
              clear hsb HTa HAa HFa HBa hx hz3 hz4
              generalize decide (z3 < 0) = fg at *
              generalize (digs W z3.natAbs).length = fn at *
              generalize digs W z3.natAbs = fl at *
              generalize A6 = fA at *
              generalize c6 = fc at *
              have hd1 : True := trivial
              clear hd1
              obtain ⟨y0, y1, y2⟩ := HTb.out.ub.cells
              obtain ⟨t0, t1, t2⟩ := HTb.out.db.cells
              simp only at y0 y1 y2 t0 t1 t2
              have HQ := Lib.hid (show Rg.At ub (fun x => wr.heap.size ≤ x ∧ x < ub.heap.size) ((⟨di, dg, dA, dn, dc, dl⟩, ⟨0, fg, fA, fn, fc, fl⟩) : Rg) from ⟨HAb.out.wide (fun x hx => hx.1), HFb.out.wide (fun x hx => hx.1)⟩)
              have HMx := Lib.hid (show k + 1 ≤ maxRg from by unfold maxRg; omega)
              have HEq := Lib.hid (show edsR ((⟨di, dg, dA, dn, dc, dl⟩, ⟨0, fg, fA, fn, fc, fl⟩) : Rg) = paD z (edsR P0) from by
                rw [HE6.out]
                unfold edsR
                rw [HE9.out, HEf9.out])
              have HGq := Lib.hid (show Gd ((⟨di, dg, dA, dn, dc, dl⟩, ⟨0, fg, fA, fn, fc, fl⟩) : Rg) from Gd.mk' HQ.out HN9.out HNf9.out
                (by rw [HE9.out]; refine Nat.le_trans (szE_up HS6.out.2.1 HZ0.out) ?_; have := HKM.out.2.1; omega) (by rw [HEf9.out]; refine Nat.le_trans (szE_dn HS6.out.2.2 HZ0.out) ?_; have := HKM.out.2.1; omega))
              clear HIi HLi HKa HKe HX6 HK6
              go_wp2_with (at_builtin; refine wpList_app1R (q := ((⟨di, dg, dA, dn, dc, dl⟩, ⟨0, fg, fA, fn, fc, fl⟩) : Rg)) rfl _ _ rfl rfl rfl HI.out.row hw2 HBb.out (HI.out.row.apart hw2 (Nat.le_refl _) HQ.out) HMx.out ?_; intro A8 c8 w8 hr8 hb8 hs8; have HN8 := Lib.hid (show PH w2 z qs (k + 1) A8 c8 (rs ++ [((⟨di, dg, dA, dn, dc, dl⟩, ⟨0, fg, fA, fn, fc, fl⟩) : Rg)]) w8 from ⟨HI.out.bel.trans hb8, hr8, fun q hq => (List.mem_append.1 hq).elim (HI.out.gd q) (fun h => by rw [List.mem_singleton.1 h]; exact HGq.out), eds_add HI.out.eds HPq.out HEq.out⟩); clear hr8 hb8 hs8)
              go_roundw
              case rel => exact ⟨k + 1, A8, c8, _, by omega, by go_num, rfl, HN8⟩
              case measure => simp [intOf]; omega
            · obtain ⟨fi, hfi⟩ : ∃ q, p1i * sg = q := ⟨_, rfl⟩
              have heib : (p1i == 0) = false := beq_eq_false_iff_ne.2 hei
              have HIt := Lib.hid (fun (y : World) => inf_turn (w' := y) (Q := Bh wr.heap.size U D y) (HKe.out u9 HB9.out) HK6.out.2.2 hei HZ.out)
              have hwr : IntKind.i64.wrap fi = fi := by
                obtain ⟨q, h1, _⟩ := HIt.out u9
                simp only at h1
                rw [hfi] at h1
                rw [h1]
                exact wrap_same h1 hfi HK6.out.2.2 hei HZ.out
              obtain ⟨y0, y1, y2⟩ := HT9.out.db.cells
              obtain ⟨f0, f1, f2⟩ := HT9.out.db.frozens
              simp only at y0 y1 y2
              have hsb := HT9.out.d0 fi
              simp only at hsb
              go_upto_region 26 with fail
              clear y0 y1 y2 f0 f1 f2
              generalize (u9.setCell ⟨D, 0, none⟩ (.int .i64 fi)) = ub at *
              have HTb := Lib.hid hsb.1
              have HI9 := Lib.hid (show (⟨fi, p1g, p1A, p1n, p1c, p1l⟩ : Bd).At ub (Bh wr.heap.size U D ub) ∧ (⟨fi, p1g, p1A, p1n, p1c, p1l⟩ : Bd).Nrm ∧ (⟨fi, p1g, p1A, p1n, p1c, p1l⟩ : Bd).ed = dnD z ee from by
                obtain ⟨q, h1, h2, h3, _, h4⟩ := HIt.out ub
                simp only at h1 h2 h3 h4
                rw [HEe.out] at h4
                rw [hfi, hwr] at h1
                subst h1
                exact ⟨h2, h3, h4⟩)
              have HFb := Lib.hid HI9.out.1
              have HNf9 := Lib.hid HI9.out.2.1
              have HEf9 := Lib.hid HI9.out.2.2
              have HAb := Lib.hid (HA9.out.bhD hsb.2)
              have HBb := Lib.hid (HB9.out.grown hsb.2 HB9.out.size (fun j e => by injection e with e; have := HUD.out; omega))
              clear hsb HIt HI9 hfi hwr heib HB9 HT9 HA9
              clear HEe
              generalize p1g = fg at HTb HFb HNf9 HEf9
              generalize p1A = fA at HTb HFb HNf9 HEf9
              generalize p1n = fn at HTb HFb HNf9 HEf9
              generalize p1c = fc at HTb HFb HNf9 HEf9
              generalize p1l = fl at HTb HFb HNf9 HEf9
              obtain ⟨y0, y1, y2⟩ := HTb.out.ub.cells
              obtain ⟨t0, t1, t2⟩ := HTb.out.db.cells
              simp only at y0 y1 y2 t0 t1 t2
              have HQ := Lib.hid (show Rg.At ub (fun x => wr.heap.size ≤ x ∧ x < ub.heap.size) ((⟨di, dg, dA, dn, dc, dl⟩, ⟨fi, fg, fA, fn, fc, fl⟩) : Rg) from ⟨HAb.out.wide (fun x hx => hx.1), HFb.out.wide (fun x hx => hx.1)⟩)
              have HMx := Lib.hid (show k + 1 ≤ maxRg from by unfold maxRg; omega)
              have HEq := Lib.hid (show edsR ((⟨di, dg, dA, dn, dc, dl⟩, ⟨fi, fg, fA, fn, fc, fl⟩) : Rg) = paD z (edsR P0) from by
                rw [HE6.out]
                unfold edsR
                rw [HE9.out, HEf9.out])
              have HGq := Lib.hid (show Gd ((⟨di, dg, dA, dn, dc, dl⟩, ⟨fi, fg, fA, fn, fc, fl⟩) : Rg) from Gd.mk' HQ.out HN9.out HNf9.out
                (by rw [HE9.out]; refine Nat.le_trans (szE_up HS6.out.2.1 HZ0.out) ?_; have := HKM.out.2.1; omega) (by rw [HEf9.out]; refine Nat.le_trans (szE_dn HS6.out.2.2 HZ0.out) ?_; have := HKM.out.2.1; omega))
              clear HIi HLi HKa HKe HX6 HK6
              go_wp2_with (at_builtin; refine wpList_app1R (q := ((⟨di, dg, dA, dn, dc, dl⟩, ⟨fi, fg, fA, fn, fc, fl⟩) : Rg)) rfl _ _ rfl rfl rfl HI.out.row hw2 HBb.out (HI.out.row.apart hw2 (Nat.le_refl _) HQ.out) HMx.out ?_; intro A8 c8 w8 hr8 hb8 hs8; have HN8 := Lib.hid (show PH w2 z qs (k + 1) A8 c8 (rs ++ [((⟨di, dg, dA, dn, dc, dl⟩, ⟨fi, fg, fA, fn, fc, fl⟩) : Rg)]) w8 from ⟨HI.out.bel.trans hb8, hr8, fun q hq => (List.mem_append.1 hq).elim (HI.out.gd q) (fun h => by rw [List.mem_singleton.1 h]; exact HGq.out), eds_add HI.out.eds HPq.out HEq.out⟩); clear hr8 hb8 hs8)
              go_roundw
              case rel => exact ⟨k + 1, A8, c8, _, by omega, by go_num, rfl, HN8⟩
              case measure => simp [intOf]; omega
        · obtain ⟨di, hdi⟩ : ∃ q, p2i * sg = q := ⟨_, rfl⟩
          have haib : (p2i == 0) = false := beq_eq_false_iff_ne.2 hai
          have HIt := Lib.hid (fun (y : World) => inf_turn (w' := y) (Q := Bh wr.heap.size U D y) (HKa.out u0 HBu.out) HK6.out.2.1 hai HZ.out)
          have hwr : IntKind.i64.wrap di = di := by
            obtain ⟨q, h1, h2, _⟩ := HIt.out u0
            simp only at h1
            rw [hdi] at h1
            rw [h1]
            exact wrap_same h1 hdi HK6.out.2.1 hai HZ.out
          obtain ⟨y0, y1, y2⟩ := HT0.out.ub.cells
          obtain ⟨f0, f1, f2⟩ := HT0.out.ub.frozens
          simp only at y0 y1 y2
          have hs9 := HT0.out.u0 di
          simp only at hs9
          go_upto_region 23 with fail
          clear y0 y1 y2 f0 f1 f2
          generalize (u0.setCell ⟨U, 0, none⟩ (.int .i64 di)) = u9 at *
          have HT9 := Lib.hid hs9.1
          have HI9 := Lib.hid (show (⟨di, p2g, p2A, p2n, p2c, p2l⟩ : Bd).At u9 (Bh wr.heap.size U D u9) ∧ (⟨di, p2g, p2A, p2n, p2c, p2l⟩ : Bd).Nrm ∧ (⟨di, p2g, p2A, p2n, p2c, p2l⟩ : Bd).ed = upD z ea from by
            obtain ⟨q, h1, h2, h3, h4, _⟩ := HIt.out u9
            simp only at h1 h2 h3 h4
            rw [HEa.out] at h4
            rw [hdi, hwr] at h1
            subst h1
            exact ⟨h2, h3, h4⟩)
          have HA9 := Lib.hid HI9.out.1
          have HN9 := Lib.hid HI9.out.2.1
          have HE9 := Lib.hid HI9.out.2.2
          have HB9 := Lib.hid (HBu.out.grown hs9.2 HBu.out.size (fun j e => by injection e with e; have := HUD.out; omega))
          clear hs9 HT0 HIt HI9 hdi hwr haib HBu
          clear HEa
          generalize p2g = dg at HT9 HA9 HN9 HE9
          generalize p2A = dA at HT9 HA9 HN9 HE9
          generalize p2n = dn at HT9 HA9 HN9 HE9
          generalize p2c = dc at HT9 HA9 HN9 HE9
          generalize p2l = dl at HT9 HA9 HN9 HE9
          by_cases hei : p1i = 0
          · subst hei
            obtain ⟨x, hx⟩ : ∃ x, ival p1g p1l = x := ⟨_, rfl⟩
            have HXf := Lib.hid (show ee = .num x from by rw [← HEe.out, Bd.ed_zero rfl]; show Ed.num (ival p1g p1l) = _; rw [hx])
            have HDm := Lib.hid (dm_ok (w := u9) (HKe.out u9 HB9.out).lim (HLi.out u9 HB9.out) (fun x hx => hx) (by have := HS6.out.1.2; have := HKM.out.2.1; simp only; omega) HKM.out.2.2 hx HV.out HZ0.out)
            obtain ⟨z3, hz3⟩ : ∃ z3, dvD x z = z3 := ⟨_, rfl⟩
            obtain ⟨z4, hz4⟩ : ∃ z4, dvM x z = z4 := ⟨_, rfl⟩
            simp only at HDm
            rw [hz3, hz4] at HDm
            obtain ⟨y0, y1, y2⟩ := HT9.out.db.cells
            obtain ⟨n0, n1'⟩ := (HIi.out u9 HB9.out).cells
            simp only at y0 y1 y2
            go_upto_region 26 with (go_at_call 63; (with_reducible refine HDm.out.mono ?_); rintro e ua ⟨A6, c6, A7, c7, rfl, hat6, _, hba⟩; have HTa := Lib.hid (HT9.out.below hba); have HAa := Lib.hid (HA9.out.bh hba); have HFa := Lib.hid (hat6.toBh (lo := wr.heap.size) (U := U) (D := D) HB9.out.size HT9.out.ub.lt HT9.out.db.lt); have HBa := Lib.hid (HB9.out.trans (hba.mono HB9.out.size)); clear hat6 hba y0 y1 y2 n0 n1'; obtain ⟨y0, y1, y2⟩ := HTa.out.db.cells; obtain ⟨f0, f1, f2⟩ := HTa.out.db.frozens; simp only at y0 y1 y2)
            clear HDm y0 y1 y2 f0 f1 f2 HT9 HA9 HB9
            have hsb := HTa.out.d2 (decide (z3 < 0)) A6 (digs W z3.natAbs).length c6 (digs W z3.natAbs)
            simp only at hsb
            generalize (ua.setCell ⟨D, 1, none⟩ (.bool (decide (z3 < 0)))).setCell ⟨D, 2, none⟩ (.slice A6 (digs W z3.natAbs).length c6) = ub at *
            have HTb := Lib.hid hsb.1
            have HAb := Lib.hid (HAa.out.bhD hsb.2)
            have HFb := Lib.hid (HFa.out.bhD hsb.2)
            have HBb := Lib.hid (HBa.out.grown hsb.2 HBa.out.size (fun j e => by injection e with e; have := HUD.out; omega))
            have HNf9 := Lib.hid (show Bd.Nrm ⟨0, decide (z3 < 0), A6, (digs W z3.natAbs).length, c6, digs W z3.natAbs⟩ from nb_nrm z3 A6 c6)
            have HEf9 := Lib.hid (show Bd.ed ⟨0, decide (z3 < 0), A6, (digs W z3.natAbs).length, c6, digs W z3.natAbs⟩ = dnD z ee from by
              rw [HXf.out]
              simp only [dnD, downE]
              rw [hz3]
              exact nb_ed z3 A6 c6)
            simp only [nb] at HFb
            clear hsb HTa HAa HFa HBa hx hz3 hz4
            generalize decide (z3 < 0) = fg at *
            generalize (digs W z3.natAbs).length = fn at *
            generalize digs W z3.natAbs = fl at *
            generalize A6 = fA at *
            generalize c6 = fc at *
            have hd1 : True := trivial
            clear hd1
            obtain ⟨y0, y1, y2⟩ := HTb.out.ub.cells
            obtain ⟨t0, t1, t2⟩ := HTb.out.db.cells
            simp only at y0 y1 y2 t0 t1 t2
            have HQ := Lib.hid (show Rg.At ub (fun x => wr.heap.size ≤ x ∧ x < ub.heap.size) ((⟨di, dg, dA, dn, dc, dl⟩, ⟨0, fg, fA, fn, fc, fl⟩) : Rg) from ⟨HAb.out.wide (fun x hx => hx.1), HFb.out.wide (fun x hx => hx.1)⟩)
            have HMx := Lib.hid (show k + 1 ≤ maxRg from by unfold maxRg; omega)
            have HEq := Lib.hid (show edsR ((⟨di, dg, dA, dn, dc, dl⟩, ⟨0, fg, fA, fn, fc, fl⟩) : Rg) = paD z (edsR P0) from by
              rw [HE6.out]
              unfold edsR
              rw [HE9.out, HEf9.out])
            have HGq := Lib.hid (show Gd ((⟨di, dg, dA, dn, dc, dl⟩, ⟨0, fg, fA, fn, fc, fl⟩) : Rg) from Gd.mk' HQ.out HN9.out HNf9.out
              (by rw [HE9.out]; refine Nat.le_trans (szE_up HS6.out.2.1 HZ0.out) ?_; have := HKM.out.2.1; omega) (by rw [HEf9.out]; refine Nat.le_trans (szE_dn HS6.out.2.2 HZ0.out) ?_; have := HKM.out.2.1; omega))
            clear HIi HLi HKa HKe HX6 HK6
            go_wp2_with (at_builtin; refine wpList_app1R (q := ((⟨di, dg, dA, dn, dc, dl⟩, ⟨0, fg, fA, fn, fc, fl⟩) : Rg)) rfl _ _ rfl rfl rfl HI.out.row hw2 HBb.out (HI.out.row.apart hw2 (Nat.le_refl _) HQ.out) HMx.out ?_; intro A8 c8 w8 hr8 hb8 hs8; have HN8 := Lib.hid (show PH w2 z qs (k + 1) A8 c8 (rs ++ [((⟨di, dg, dA, dn, dc, dl⟩, ⟨0, fg, fA, fn, fc, fl⟩) : Rg)]) w8 from ⟨HI.out.bel.trans hb8, hr8, fun q hq => (List.mem_append.1 hq).elim (HI.out.gd q) (fun h => by rw [List.mem_singleton.1 h]; exact HGq.out), eds_add HI.out.eds HPq.out HEq.out⟩); clear hr8 hb8 hs8)
            go_roundw
            case rel => exact ⟨k + 1, A8, c8, _, by omega, by go_num, rfl, HN8⟩
            case measure => simp [intOf]; omega
          · obtain ⟨fi, hfi⟩ : ∃ q, p1i * sg = q := ⟨_, rfl⟩
            have heib : (p1i == 0) = false := beq_eq_false_iff_ne.2 hei
            have HIt := Lib.hid (fun (y : World) => inf_turn (w' := y) (Q := Bh wr.heap.size U D y) (HKe.out u9 HB9.out) HK6.out.2.2 hei HZ.out)
            have hwr : IntKind.i64.wrap fi = fi := by
              obtain ⟨q, h1, _⟩ := HIt.out u9
              simp only at h1
              rw [hfi] at h1
              rw [h1]
              exact wrap_same h1 hfi HK6.out.2.2 hei HZ.out
            obtain ⟨y0, y1, y2⟩ := HT9.out.db.cells
            obtain ⟨f0, f1, f2⟩ := HT9.out.db.frozens
            simp only at y0 y1 y2
            have hsb := HT9.out.d0 fi
            simp only at hsb
            go_upto_region 26 with fail
            clear y0 y1 y2 f0 f1 f2
            generalize (u9.setCell ⟨D, 0, none⟩ (.int .i64 fi)) = ub at *
            have HTb := Lib.hid hsb.1
            have HI9 := Lib.hid (show (⟨fi, p1g, p1A, p1n, p1c, p1l⟩ : Bd).At ub (Bh wr.heap.size U D ub) ∧ (⟨fi, p1g, p1A, p1n, p1c, p1l⟩ : Bd).Nrm ∧ (⟨fi, p1g, p1A, p1n, p1c, p1l⟩ : Bd).ed = dnD z ee from by
              obtain ⟨q, h1, h2, h3, _, h4⟩ := HIt.out ub
              simp only at h1 h2 h3 h4
              rw [HEe.out] at h4
              rw [hfi, hwr] at h1
              subst h1
              exact ⟨h2, h3, h4⟩)
            have HFb := Lib.hid HI9.out.1
            have HNf9 := Lib.hid HI9.out.2.1
            have HEf9 := Lib.hid HI9.out.2.2
            have HAb := Lib.hid (HA9.out.bhD hsb.2)
            have HBb := Lib.hid (HB9.out.grown hsb.2 HB9.out.size (fun j e => by injection e with e; have := HUD.out; omega))
            clear hsb HIt HI9 hfi hwr heib HB9 HT9 HA9
            clear HEe
            generalize p1g = fg at HTb HFb HNf9 HEf9
            generalize p1A = fA at HTb HFb HNf9 HEf9
            generalize p1n = fn at HTb HFb HNf9 HEf9
            generalize p1c = fc at HTb HFb HNf9 HEf9
            generalize p1l = fl at HTb HFb HNf9 HEf9
            obtain ⟨y0, y1, y2⟩ := HTb.out.ub.cells
            obtain ⟨t0, t1, t2⟩ := HTb.out.db.cells
            simp only at y0 y1 y2 t0 t1 t2
            have HQ := Lib.hid (show Rg.At ub (fun x => wr.heap.size ≤ x ∧ x < ub.heap.size) ((⟨di, dg, dA, dn, dc, dl⟩, ⟨fi, fg, fA, fn, fc, fl⟩) : Rg) from ⟨HAb.out.wide (fun x hx => hx.1), HFb.out.wide (fun x hx => hx.1)⟩)
            have HMx := Lib.hid (show k + 1 ≤ maxRg from by unfold maxRg; omega)
            have HEq := Lib.hid (show edsR ((⟨di, dg, dA, dn, dc, dl⟩, ⟨fi, fg, fA, fn, fc, fl⟩) : Rg) = paD z (edsR P0) from by
              rw [HE6.out]
              unfold edsR
              rw [HE9.out, HEf9.out])
            have HGq := Lib.hid (show Gd ((⟨di, dg, dA, dn, dc, dl⟩, ⟨fi, fg, fA, fn, fc, fl⟩) : Rg) from Gd.mk' HQ.out HN9.out HNf9.out
              (by rw [HE9.out]; refine Nat.le_trans (szE_up HS6.out.2.1 HZ0.out) ?_; have := HKM.out.2.1; omega) (by rw [HEf9.out]; refine Nat.le_trans (szE_dn HS6.out.2.2 HZ0.out) ?_; have := HKM.out.2.1; omega))
            clear HIi HLi HKa HKe HX6 HK6
            go_wp2_with (at_builtin; refine wpList_app1R (q := ((⟨di, dg, dA, dn, dc, dl⟩, ⟨fi, fg, fA, fn, fc, fl⟩) : Rg)) rfl _ _ rfl rfl rfl HI.out.row hw2 HBb.out (HI.out.row.apart hw2 (Nat.le_refl _) HQ.out) HMx.out ?_; intro A8 c8 w8 hr8 hb8 hs8; have HN8 := Lib.hid (show PH w2 z qs (k + 1) A8 c8 (rs ++ [((⟨di, dg, dA, dn, dc, dl⟩, ⟨fi, fg, fA, fn, fc, fl⟩) : Rg)]) w8 from ⟨HI.out.bel.trans hb8, hr8, fun q hq => (List.mem_append.1 hq).elim (HI.out.gd q) (fun h => by rw [List.mem_singleton.1 h]; exact HGq.out), eds_add HI.out.eds HPq.out HEq.out⟩); clear hr8 hb8 hs8)
            go_roundw
            case rel => exact ⟨k + 1, A8, c8, _, by omega, by go_num, rfl, HN8⟩
            case measure => simp [intOf]; omega

    · have hkk : n1 = k := by omega
      subst hkk
      have hlr := HI.out.row.len
      have hki : ¬ ((n1 : Int) < (n1 : Int)) := by omega
      have HEe := Lib.hid (show rs.map edsR = (qs.map edsR).map (paD z) from by
        have h1 := HI.out.eds
        rw [List.take_of_length_le (Nat.le_of_eq HLq.out.1)] at h1
        exact h1)
      have HBn := Lib.hid (show Bnd (M + 1) (rs.map edsR) from by
        rw [HEe.out]
        intro r hr
        obtain ⟨r0, h1, rfl⟩ := List.mem_map.1 hr
        have h2 := HNf.out.2.1 r0 h1
        unfold paD paR
        split
        · exact ⟨szE_up h2.1 HZ0.out, Nat.le_succ_of_le (szE_dn h2.2 HZ0.out)⟩
        · exact ⟨szE_up h2.2 HZ0.out, Nat.le_succ_of_le (szE_dn h2.1 HZ0.out)⟩)
      have HGi := Lib.hid (give_ok (w := wr) (HI.out.row.set (fun b h1 h2 => ⟨h1, h2⟩)) (fun b hb => hb.2) (fun q hq => ⟨fun _ => (HI.out.gd q hq).2.1, fun _ => (HI.out.gd q hq).2.2⟩) hn9 HBn.out HKM.out.2.1)
      go_wp2_with (go_at_call 52; (with_reducible refine HGi.out.mono ?_); rintro e w3 ⟨A4, n4, c4, q4, w4, rfl, hres, hb3⟩; have HR := Lib.hid hres; have HB3 := Lib.hid hb3; clear hres hb3)
      obtain ⟨r1, r2, r3, r4, r5, r6, r7⟩ := HR.out
      have s0 := HBe.out.size
      have s1 := HI.out.bel.size
      have s3 := r7.size
      have hBB := HB.out
      have hB4 := HG4.out
      have key : (∃ A m c qs, Ending.returned (.tuple #[.slice A4 n4 c4, .int .i64 0]) = .returned (.tuple #[.slice A m c, .int .i64 0]) ∧ SOut w3 B A m c qs K (M + 1) ∧ (∀ k, Hf.mem k (qs.map edsR) ↔ Hf.mem (k * z) (ps.map edsR)) ∧ Below B w w3) :=
        ⟨A4, n4, c4, q4, rfl, ((⟨r1, r2, r3, by have := HLq.out.2.1; omega, Bnd.ends HBn.out r5⟩ : SOut w4 wr.heap.size A4 n4 c4 q4 K (M + 1)).below HB3.out).lower (by omega), fun k => by
          rw [r4 k, HEe.out, mem_pa HZ0.out (fun x => cut_dv HZ0.out)]
          exact HNf.out.2.2 _, ((HBe.out.trans (HI.out.bel.mono (by omega))).trans (r7.mono (by omega))).trans (HB3.out.mono (by omega))⟩
      first
        | (go_ret; exact key)
        | exact bodyPost_ret (v := .tuple #[.slice A4 n4 c4, .int .i64 0]) (by simp [results, Tryz.results23, go_sem]) rfl key
end Go.Proofs.YtpikjceodmepiaaGreatDoor

