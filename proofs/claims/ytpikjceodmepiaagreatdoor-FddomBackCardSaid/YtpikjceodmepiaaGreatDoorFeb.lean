import Derived.Test.YtpikjceodmepiaaGreatDoorFbb
import Derived.Test.YtpikjceodmepiaaGreatDoorYrb
set_option linter.unusedVariables false
set_option linter.unusedSimpArgs false
namespace Go.Proofs.YtpikjceodmepiaaGreatDoor
open Go.RowKit Hb Hf Ht
set_option linter.unusedVariables false
set_option linter.unusedSimpArgs false
attribute [local go_sem ↓] Go.wp_at_zero Go.wp_at_succ
attribute [local go_sem] Oper.semAt_some
/-! ### Term -/
theorem cmpB_eq {a b : Bd} (ha : a.Tri) (hb : b.Tri) : cmpB a b = 0 ↔ a.ed = b.ed := by
  obtain ⟨ai, ag, aA, an, ac, al⟩ := a
  obtain ⟨bi, bg, bA, bn, bc, bl⟩ := b
  unfold Bd.Tri at ha hb
  simp only at ha hb
  rcases ha with rfl | rfl | rfl <;> rcases hb with rfl | rfl | rfl <;> simp [cmpB, Bd.ed, cmpZ]
  split
  · omega
  · split <;> omega
theorem tm_letters (t : Tm) : ∃ k nb mb b v, ∀ sl, Ht.cells6 t sl = [.int .i64 k, .string nb, .string mb, .int .u64 b, .int .i64 v, sl] := ⟨_, _, _, _, _, fun _ => rfl⟩
theorem end_letters (e : Ed) : ∃ k nb mb, ∀ sl, Ht.cells6 (endT e) sl = [.int .i64 k, .string nb, .string mb, .int .u64 0, .int .i64 0, sl] := by
  cases e <;> exact ⟨_, _, _, fun _ => rfl⟩
theorem TBox.cellsL {w : World} {g : Nat} {t : Tm} {sl a0 a1 a2 a3 a4 : Value} (h : TBox w g t sl) (hl : ∀ sl, Ht.cells6 t sl = [a0, a1, a2, a3, a4, sl]) : w.cell? ⟨g, 0, none⟩ = some a0 ∧ w.cell? ⟨g, 1, none⟩ = some a1 ∧ w.cell? ⟨g, 2, none⟩ = some a2 ∧ w.cell? ⟨g, 3, none⟩ = some a3 ∧ w.cell? ⟨g, 4, none⟩ = some a4 ∧ w.cell? ⟨g, 5, none⟩ = some sl := by
  unfold TBox at h
  rw [hl] at h
  refine ⟨?_, ?_, ?_, ?_, ?_, ?_⟩ <;> (rw [cell_of_row w g _ _ _ (0, 0) h]; rfl)
theorem TBox.setL {w : World} {g : Nat} {t t' : Tm} {sl sl' a0 a1 a2 a3 a4 : Value} (h : TBox w g t sl) (hl : ∀ sl, Ht.cells6 t' sl = [a0, a1, a2, a3, a4, sl]) :
    TBox ((((((w.setCell ⟨g, 0, none⟩ a0).setCell ⟨g, 1, none⟩ a1).setCell ⟨g, 2, none⟩ a2).setCell ⟨g, 3, none⟩ a3).setCell ⟨g, 4, none⟩ a4).setCell ⟨g, 5, none⟩ sl') g t' sl' ∧ w.grownBy ((((((w.setCell ⟨g, 0, none⟩ a0).setCell ⟨g, 1, none⟩ a1).setCell ⟨g, 2, none⟩ a2).setCell ⟨g, 3, none⟩ a3).setCell ⟨g, 4, none⟩ a4).setCell ⟨g, 5, none⟩ sl') (some g) := by
  refine ⟨?_, gb_setCell (gb_setCell (gb_setCell (gb_setCell (gb_setCell (gb_setCell (gb_refl _ _) _ _) _ _) _ _) _ _) _ _) _ _⟩
  unfold TBox at h ⊢
  rw [hl]
  obtain ⟨c0, c1, c2, c3, c4, hc⟩ := tm_letters t
  rw [hc] at h
  simp [World.setCell, Array.getElem?_modify, h]
theorem TBox.newL (w : World) {t : Tm} {sl a0 a1 a2 a3 a4 : Value} (hl : ∀ sl, Ht.cells6 t sl = [a0, a1, a2, a3, a4, sl]) : TBox (w.alloc (.cells #[a0, a1, a2, a3, a4, sl] 26)) w.heap.size t sl := by
  unfold TBox
  rw [hl]
  exact heap_alloc_new w _
theorem TBox.gro {w w' : World} {g N : Nat} {t : Tm} {sl : Value} (h : TBox w g t sl) (hg : w.grownBy w' (some N)) (hn : g ≠ N) : TBox w' g t sl := (hg.block g (Array.getElem?_eq_some_iff.1 h).1 (fun e => by injection e with e; exact hn e)).trans h
/-- the term of the first some ranges -/
def accT : List R → Tm
  | [] => zeroT
  | r :: rs => rs.foldl orT (spanT r)
theorem accT_one (r : R) : accT [r] = spanT r := rfl
theorem accT_snoc : ∀ {L : List R} {r : R}, L ≠ [] → accT (L ++ [r]) = orT (accT L) r
  | [], _, h => absurd rfl h
  | s :: L, r, _ => by simp [accT, List.foldl_append]
theorem accT_set {L : List R} (h : L ≠ []) : setT L = accT L := by cases L with
  | nil => exact absurd rfl h
  | cons r rs => rfl
theorem of_ok2 {w : World} {P : Nat → Prop} {ta tb : Tm} {sa sb : Value} {s : List UInt8} {nb : ByteArray} (ha : TAtP w P ta sa) (hb : TAtP w P tb sb) (hP : ∀ b, P b → b < w.heap.size) (hs : (⟨s.toArray⟩ : ByteArray) = nb) (hl : s.length ≤ maxLen) :
    Calls Tryz.prog 36 #[.string nb, valT ta sa, valT tb sb] w fun e w' => ∃ A c, e = .returned (.agg #[.int .i64 5, .string nb, .string ⟨#[]⟩, .int .u64 0, .int .i64 0, .slice A 2 c]) ∧ TAtP w' (Grow P w w') (cmpT s [ta, tb]) (.slice A 2 c) ∧ Below w.heap.size w w' :=
  (of_ok ha hb hP hs hl).mono fun e w' ⟨sl, he, ht, hb2⟩ => by
    obtain ⟨A, c, e1, _⟩ := TAtP.iff.1 ht
    have e2 : sl = .slice A 2 c := e1
    subst e2
    exact ⟨A, c, by rw [he, ← hs]; rfl, ht, hb2⟩
theorem take_snoc {L : List R} {k : Nat} {r : R} (h : L[k]? = some r) : L.take (k + 1) = L.take k ++ [r] := by rw [List.take_add_one, h]; rfl
abbrev VT (w : World) (A : Option Addr) (n c : Nat) : World := ((w.alloc (.cells #[.slice A n c] 22)).alloc (.cells #[.int .i64 0, .string ⟨#[]⟩, .string ⟨#[]⟩, .int .u64 0, .int .i64 0, .slice none 0 0] 26)).alloc (.cells #[.pointer (some ⟨w.heap.size, 0, none⟩)] 89)
theorem VT_facts (w : World) (A : Option Addr) (n c : Nat) : Below w.heap.size w (VT w A n c) ∧ (VT w A n c).heap.size = w.heap.size + 3 ∧ VBox (VT w A n c) w.heap.size A n c ∧ TBox (VT w A n c) (w.heap.size + 1) zeroT (.slice none 0 0) ∧ (VT w A n c).cell? ⟨w.heap.size + 2, 0, none⟩ = some (.pointer (some ⟨w.heap.size, 0, none⟩)) := by
  refine ⟨(((Below.refl _ _).alloc (Nat.le_refl _) _).alloc (by simp) _).alloc (by simp; omega) _, by simp, ?_, ?_, ?_⟩
  · have h0 : VBox (w.alloc (.cells #[.slice A n c] 22)) w.heap.size A n c := heap_alloc_new w _
    exact ((((Below.refl _ _).alloc (Nat.le_refl _) _).alloc (by simp) _).block w.heap.size (by simp)).trans h0
  · have h0 : TBox ((w.alloc (.cells #[.slice A n c] 22)).alloc (.cells #[.int .i64 0, .string ⟨#[]⟩, .string ⟨#[]⟩, .int .u64 0, .int .i64 0, .slice none 0 0] 26)) (w.heap.size + 1) zeroT (.slice none 0 0) := by
      have := TBox.new (w.alloc (.cells #[.slice A n c] 22)) (k := 0) (v := 0) (b := 0) (n := []) (m := []) (ts := []) (sl := .slice none 0 0) (nb := ⟨#[]⟩) (mb := ⟨#[]⟩) rfl rfl
      rw [World.size_alloc] at this
      exact this
    exact (((Below.refl _ _).alloc (Nat.le_refl _) _).block (w.heap.size + 1) (by simp)).trans h0
  · have := heap_alloc_new ((w.alloc (.cells #[.slice A n c] 22)).alloc (.cells #[.int .i64 0, .string ⟨#[]⟩, .string ⟨#[]⟩, .int .u64 0, .int .i64 0, .slice none 0 0] 26)) (.cells #[.pointer (some ⟨w.heap.size, 0, none⟩)] 89)
    simp only [World.size_alloc] at this
    rw [cell_of_row _ _ 0 _ _ (0, 0) this]
    rfl
theorem VT_take {w : World} {P : Nat → Prop} {A : Option Addr} {n c K M : Nat} {ps : List Rg} (h : SIn w P A n c ps K M) (hP : ∀ b, P b → b < w.heap.size) (hK : K ≤ 1000) (hM : M ≤ 128) :
    Calls Tryz.prog 35 #[.slice none 0 0, .slice (some ⟨w.heap.size + 1 + 1, 0, none⟩) 1 1] (VT w A n c) fun e w' => e = .returned (.int .i64 0) ∧ Below w.heap.size w w' ∧ w.heap.size + 3 ≤ w'.heap.size ∧ TBox w' (w.heap.size + 1) zeroT (.slice none 0 0) ∧
      ∃ A1 n1 c1 qs, VBox w' w.heap.size A1 n1 c1 ∧ SOut w' (w.heap.size + 3) A1 n1 c1 qs K M ∧ (∀ z, Hf.mem z (qs.map edsR) ↔ Hf.mem z (ps.map edsR)) := by
  obtain ⟨hb, hz, hv, ht, hc⟩ := VT_facts w A n c
  have hk := h.keep (Q := P) (fun b hb2 => ⟨hb2, hb.block b (hP b hb2)⟩)
  generalize VT w A n c = W at *
  refine (take1 (r := 0) (ci := 0) hk (fun b hb2 => ⟨by have := hP b hb2; omega, by have := hP b hb2; omega⟩) hv hc (by omega) (by omega) (InIn.nil W) (fun x hx => by cases hx) rfl (by omega) hK hM).mono fun e w' ⟨he, hch, hd⟩ => ?_
  have hs3 := hch.size
  rw [hz] at hs3 hd
  exact ⟨he, hb.trans (hch.below (by omega) (fun ad had => by simp at had; omega)), hs3, (hch.block (w.heap.size + 1) (by omega) (by simp)).trans ht, hd⟩
def TermPostB (B : Nat) (w : World) (L : List R) (K M : Nat) (e : Ending) (w' : World) : Prop :=
  ∃ N sl, NF N ∧ (∀ z, Hf.mem z N ↔ Hf.mem z L) ∧ N.length ≤ K ∧ Bnd M N ∧ e = .returned (.tuple #[valT (setT N) sl, .int .i64 0]) ∧ TAtP w' (Fr B w') (setT N) sl ∧ Below B w w'
def TermPost (w : World) (L : List R) (K M : Nat) (e : Ending) (w' : World) : Prop := TermPostB w.heap.size w L K M e w'
/-- the loop's head -/
structure TH (w1 : World) (T : Tm) (A : Option Addr) (n c : Nat) (wr : World) : Prop where
  bel : Below w1.heap.size w1 wr
  box : TBox wr w1.heap.size T (.slice A n c)
  at_ : TAtP wr (fun b => w1.heap.size < b ∧ b < wr.heap.size) T (.slice A n c)
set_option maxRecDepth 100000 in
set_option maxHeartbeats 8000000 in
theorem Term_ok {w : World} {P : Nat → Prop} {A : Option Addr} {n c K M : Nat} {ps : List Rg} (h : SIn w P A n c ps K M) (hP : ∀ b, P b → b < w.heap.size) (hK : K ≤ 1000) (hM : M ≤ 128) :
    Calls Tryz.prog 8 #[.slice A n c] w (TermPost w (ps.map edsR) K M) := by
  obtain ⟨B, hB⟩ : ∃ B, w.heap.size = B := ⟨_, rfl⟩
  have HB := Lib.hid hB
  have HT := Lib.hid (VT_take h hP hK hM)
  have HKM := Lib.hid (And.intro hK hM)
  unfold TermPost
  rw [hB]
  unfold VT at HT
  rw [hB] at HT
  clear h hP hK hM hB
  go_enter Tryz.func8, Tryz.ntmps8
  go_wp2_with fail
  rw [HB.out]
  (with_reducible refine HT.out.mono ?_)
  rintro e w1 ⟨rfl, hb1, hz1, ht1, A1, n1, c1, qs, hv1, ho1, hm1⟩
  have HB1 := Lib.hid hb1
  have HZ1 := Lib.hid hz1
  have HT1 := Lib.hid ht1
  have HV1 := Lib.hid hv1
  have HS1 := Lib.hid ho1.set
  have HGo := Lib.hid ho1.gd
  have HNf := Lib.hid (And.intro ho1.nf (And.intro ho1.bnd hm1))
  have HLq := Lib.hid (show qs.length = n1 ∧ n1 ≤ K ∧ n1 ≤ 1000 from ⟨ho1.row.len, ho1.len, Nat.le_trans ho1.len HKM.out.1⟩)
  have hn9 : n1 ≤ 1000 := HLq.out.2.2
  obtain ⟨v0, _⟩ := hv1.cell
  clear hb1 hz1 ht1 hv1 ho1 hm1 HT
  by_cases hn0 : n1 = 0
  · subst hn0
    obtain ⟨z1, hz1⟩ : ∃ z : Int, 1 = z := ⟨_, rfl⟩
    have HF := Lib.hid (show ∀ u, Calls Tryz.prog 27 #[.int .i64 1] u (PostI u z1) from fun u => by rw [← hz1]; exact from_any 1 u (by omega) (by omega))
    have HZ := Lib.hid hz1
    have HSz := Lib.hid (show szE (.num z1) ≤ 128 from by rw [← hz1, szE_one]; omega)
    obtain ⟨ka, na, ma, hla⟩ := end_letters (.num z1)
    obtain ⟨kb, nb', mb, hlb⟩ := end_letters (.num 0)
    have HLa := Lib.hid hla
    have HLb := Lib.hid hlb
    have HEa := Lib.hid (fun (u : World) A2 c2 (hat : (nb z1 A2 c2).At u (fun x => x < u.heap.size)) => show Calls Tryz.prog 37 #[.agg #[.int .i64 0, .bool (decide (z1 < 0)), .slice A2 (digs W z1.natAbs).length c2]] u (fun e w' => e = .returned (.agg #[.int .i64 ka, .string na, .string ma, .int .u64 0, .int .i64 0, .slice none 0 0]) ∧ Below u.heap.size u w') from by
      have hh := end_ok (b := nb z1 A2 c2) hat (fun x hx => hx) (.inr (.inl rfl)) HSz.out
      unfold EndTPost valT at hh
      rw [nb_ed, HLa.out] at hh
      exact hh)
    have HEb := Lib.hid (fun (u : World) => show Calls Tryz.prog 37 #[.agg #[.int .i64 0, .bool false, .slice none 0 0]] u (fun e w' => e = .returned (.agg #[.int .i64 kb, .string nb', .string mb, .int .u64 0, .int .i64 0, .slice none 0 0]) ∧ Below u.heap.size u w') from by
      have hh := end_ok (w := u) (b := ib 0) (P := fun x => x < u.heap.size) (ib_at _ _ (by omega)) (fun x hx => hx) (.inr (.inl rfl)) (by simp [ib])
      unfold EndTPost valT at hh
      rw [show (ib 0).ed = .num 0 from rfl, HLb.out] at hh
      exact hh)
    clear hz1 hla hlb
    generalize hd : decide (z1 < 0) = zd at HEa
    generalize hl : (digs W z1.natAbs).length = zl at HEa
    have HD := Lib.hid (And.intro hd hl)
    clear hd hl
    go_wp2_with fail
    (with_reducible refine (HF.out w1).mono ?_)
    rintro e u1 ⟨v, rfl, hr, hb1⟩
    obtain ⟨A2, c2, rfl, hat⟩ := hr.nb
    rw [HD.out.1, HD.out.2]
    have HA1 := Lib.hid (hat.wide (fun x hx => hx.2))
    have HU1 := Lib.hid hb1
    clear hr hat hb1 v0
    go_wp2_with fail
    (with_reducible refine (HEa.out u1 _ _ HA1.out).mono ?_)
    rintro e u2 ⟨rfl, hb2⟩
    have HU2 := Lib.hid (HU1.out.trans (hb2.mono HU1.out.size))
    clear hb2
    go_wp2_with fail
    (with_reducible refine (HEb.out u2).mono ?_)
    rintro e u3 ⟨rfl, hb3⟩
    have HU3 := Lib.hid (HU2.out.trans (hb3.mono HU2.out.size))
    clear hb3
    have HOf := Lib.hid (of_ok2 (w := u3) (P := fun b => False) (ta := endT (.num z1)) (tb := endT (.num 0)) (sa := .slice none 0 0) (sb := .slice none 0 0) (s := sDots) (nb := ⟨#[46, 46]⟩) (TAtP.leaf _ _ (end_as _) (by simp [maxLen]) (okF_end HSz.out)) (TAtP.leaf _ _ (end_as _) (by simp [maxLen]) (okF_end (by unfold EdOk; rw [szE_nought]; omega))) (fun b hb => hb.elim) rfl (by decide))
    unfold valT at HOf
    rw [HLa.out, HLb.out] at HOf
    go_wp2_with fail
    (with_reducible refine HOf.out.mono ?_)
    rintro e u4 ⟨A4, c4, rfl, hat4, hb4⟩
    have HU4 := Lib.hid (HU3.out.trans (hb4.mono HU3.out.size))
    have HAt4 := Lib.hid hat4
    have HU34 := Lib.hid (And.intro HU3.out.size hb4.size)
    clear hat4 hb4
    have HR := Lib.hid (show TBox u4 (B + 1) zeroT (.slice none 0 0) from (HU4.out.block (B + 1) (by have := HZ1.out; omega)).trans HT1.out)
    obtain ⟨f0, f1, f2, f3, f4, f5⟩ := TBox.frozens HR.out
    obtain ⟨y0, y1, y2, y3, y4, y5⟩ := TBox.cells (nb := ⟨#[]⟩) (mb := ⟨#[]⟩) HR.out rfl rfl
    have HSe := Lib.hid (TBox.setL (t' := cmpT sDots [endT (.num z1), endT (.num 0)]) (sl' := .slice A4 2 c4) (a0 := .int .i64 5) (a1 := .string ⟨#[46, 46]⟩) (a2 := .string ⟨#[]⟩) (a3 := .int .u64 0) (a4 := .int .i64 0) HR.out (fun _ => rfl))
    go_wp2_with fail
    generalize (((((u4.setCell ⟨B + 1, 0, none⟩ (.int .i64 5)).setCell ⟨B + 1, 1, none⟩ (.string ⟨#[46, 46]⟩)).setCell ⟨B + 1, 2, none⟩ (.string ⟨#[]⟩)).setCell ⟨B + 1, 3, none⟩ (.int .u64 0)).setCell ⟨B + 1, 4, none⟩ (.int .i64 0)).setCell ⟨B + 1, 5, none⟩ (.slice A4 2 c4) = w9 at *
    obtain ⟨r0, r1, r2, r3, r4, r5⟩ := TBox.cellsL (a0 := .int .i64 5) (a1 := .string ⟨#[46, 46]⟩) (a2 := .string ⟨#[]⟩) (a3 := .int .u64 0) (a4 := .int .i64 0) HSe.out.1 (fun _ => rfl)
    have HTT := Lib.hid (show setT [] = cmpT sDots [endT (.num z1), endT (.num 0)] from by rw [← HZ.out]; rfl)
    have HB9 := Lib.hid (show Below B w w9 from (HB1.out.trans (HU4.out.mono (by have := HZ1.out; omega))).grown HSe.out.2 (by have := HZ1.out; have := HU4.out.size; omega) (fun j e => by injection e with e; omega))
    have key : TermPostB B w (ps.map edsR) K M (.returned (.tuple #[.agg #[.int .i64 5, .string ⟨#[46, 46]⟩, .string ⟨#[]⟩, .int .u64 0, .int .i64 0, .slice A4 2 c4], .int .i64 0])) w9 :=
      ⟨[], .slice A4 2 c4, trivial, fun z => by
        have h1 := HNf.out.2.2 z
        rw [List.length_eq_zero_iff.1 HLq.out.1] at h1
        exact h1, Nat.zero_le _, fun r hr => by simp at hr, by rw [HTT.out]; rfl, by
        rw [HTT.out]
        have hz := HSe.out.2.size
        have hz1 := HZ1.out
        have hz3 := HU34.out
        refine TAtP.keep _ HAt4.out (fun b hb => ?_)
        rcases hb with hb | hb
        · exact hb.elim
        · exact ⟨⟨by have := hb.1; omega, by have := hb.2; omega⟩, HSe.out.2.block b hb.2 (fun e => by injection e with e; have := hb.1; omega)⟩, HB9.out⟩
    first
      | (go_ret; exact key)
      | exact bodyPost_ret (v := .tuple #[.agg #[.int .i64 5, .string ⟨#[46, 46]⟩, .string ⟨#[]⟩, .int .u64 0, .int .i64 0, .slice A4 2 c4], .int .i64 0]) (by simp [results, Tryz.results8, go_sem, r0, r1, r2, r3, r4, r5]) rfl key
  · have hn0i : ((n1 : Int) == 0) = false := beq_eq_false_iff_ne.2 (by omega)
    have v1 : (w1.alloc (.cells #[.int .i64 0, .string ⟨#[]⟩, .string ⟨#[]⟩, .int .u64 0, .int .i64 0, .slice none 0 0] 26)).cell? ⟨B, 0, none⟩ = some (.slice A1 n1 c1) := (((Below.refl w1.heap.size w1).alloc (Nat.le_refl _) _).cell (p := ⟨B, 0, none⟩) (show B < w1.heap.size by have := HZ1.out; omega)).trans v0
    go_wp2_with fail
    clear v1
    have HSC := Lib.hid (show TH w1 zeroT none 0 0 (w1.alloc (.cells #[.int .i64 0, .string ⟨#[]⟩, .string ⟨#[]⟩, .int .u64 0, .int .i64 0, .slice none 0 0] 26)) from
      ⟨(Below.refl _ _).alloc (Nat.le_refl _) _, TBox.new w1 (k := 0) (v := 0) (b := 0) (n := []) (m := []) (ts := []) (sl := .slice none 0 0) (nb := ⟨#[]⟩) (mb := ⟨#[]⟩) rfl rfl, TAtP.leaf _ _ rfl (by simp [maxLen]) ⟨by simp [zeroT, Tm.n], by simp [zeroT, Tm.m], by simp [zeroT, Tm.b], by simp [zeroT, Tm.v], by simp [zeroT, Tm.k]⟩⟩)
    have HN0 := Lib.hid hn0
    clear v0 hn0 hn0i
    go_loopw [26] (fun vi wr => ∃ k T Ta n2 c2, k ≤ n1 ∧ vi = .int .i64 (k : Nat) ∧ Hid (T = accT ((qs.map edsR).take k)) ∧ Hid (TH w1 T Ta n2 c2 wr)) (fun vi _ => n1 - (intOf vi).toNat)
    case atStart => exact ⟨0, zeroT, none, 0, 0, Nat.zero_le _, rfl, Lib.hid rfl, HSC⟩
    case round =>
      obtain ⟨k, T, Ta, n2, c2, hk, rfl, HAc, HI⟩ := hrel
      clear HSC
      by_cases hkn : k < n1
      · obtain ⟨p, hp⟩ : ∃ p, qs[k]? = some p := ⟨qs[k]'(by have := HLq.out.1; omega), by simp⟩
        obtain ⟨b, o, rfl, hPb, q0, q1, q2, q3, q4, q5⟩ := HS1.out.row.at_ hp
        have hpm := List.mem_of_getElem? hp
        have HGd := Lib.hid (HGo.out p hpm)
        have HPe := Lib.hid (show (qs.map edsR)[k]? = some (edsR p) from by rw [List.getElem?_map, hp]; rfl)
        have HKp := Lib.hid (show ∀ u, Below w1.heap.size w1 u → Rg.At u (fun x => x < u.heap.size) p from fun u hu => (HS1.out.kid p hpm).keep (fun x hx => ⟨by have := hx.2; have := hu.size; omega, hu.block x hx.2⟩))
        have hbc : ∀ j u, w1.cell? ⟨b, j, none⟩ = some u → wr.cell? ⟨b, j, none⟩ = some u := fun j u h => (HI.out.bel.cell (p := ⟨b, j, none⟩) hPb.2).trans h
        have i0 := hbc _ _ q0
        have i1 := hbc _ _ q1
        have i2 := hbc _ _ q2
        have i3 := hbc _ _ q3
        have i4 := hbc _ _ q4
        have i5 := hbc _ _ q5
        have hX := RBox.new wr p
        have HBx := Lib.hid (show Below wr.heap.size wr (wr.alloc (.cells (cells6 p).toArray 69)) from (Below.refl _ _).alloc (Nat.le_refl _) _)
        obtain ⟨⟨p1i, p1g, p1A, p1n, p1c, p1l⟩, ⟨p2i, p2g, p2A, p2n, p2c, p2l⟩⟩ := p
        have HX := Lib.hid hX
        simp only [cells6_eq] at HX HBx
        simp only at i0 i1 i2 i3 i4 i5
        have hki : (k : Int) < (n1 : Int) := by omega
        have hk0 : (0 : Int) ≤ (k : Int) := by omega
        have HM1 := Lib.hid (show p1n ≤ 128 ∧ p2n ≤ 128 from by
          have h1 := HNf.out.2.1 _ (List.mem_map.2 ⟨_, hpm, rfl⟩)
          have h2 := HGd.out.1.1.szE (HKp.out w1 (Below.refl _ _)).a.lim.len
          have h3 := HGd.out.1.2.szE (HKp.out w1 (Below.refl _ _)).b.lim.len
          have := HKM.out.2
          simp only at h2 h3
          unfold edsR at h1
          simp only at h1
          omega)
        have hw1 := HI.out.bel.size
        have hGl := HI.out.box.lt
        clear q0 q1 q2 q3 q4 q5 hp hpm hX hbc hPb
        go_upto_region 10 with fail
        clear i0 i1 i2 i3 i4 i5
        have hXl := HX.out.lt
        generalize (wr.alloc (.cells #[.int .i64 p1i, .bool p1g, .slice p1A p1n p1c, .int .i64 p2i, .bool p2g, .slice p2A p2n p2c] 69)) = w5 at *
        obtain ⟨ea, hea⟩ : ∃ x, Bd.ed ⟨p1i, p1g, p1A, p1n, p1c, p1l⟩ = x := ⟨_, rfl⟩
        obtain ⟨eb, heb⟩ : ∃ x, Bd.ed ⟨p2i, p2g, p2A, p2n, p2c, p2l⟩ = x := ⟨_, rfl⟩
        obtain ⟨ka, na, ma, hla⟩ := end_letters ea
        obtain ⟨kb, nb', mb, hlb⟩ := end_letters eb
        have HEa := Lib.hid (fun (u : World) (hu : Below w1.heap.size w1 u) => show Calls Tryz.prog 37 #[.agg #[.int .i64 p1i, .bool p1g, .slice p1A p1n p1c]] u (fun e w' => e = .returned (.agg #[.int .i64 ka, .string na, .string ma, .int .u64 0, .int .i64 0, .slice none 0 0]) ∧ Below u.heap.size u w') from by
          have hh := end_ok (HKp.out u hu).a (fun x hx => hx) HGd.out.1.1.tri HM1.out.1
          unfold EndTPost valT at hh
          rw [hea, hla] at hh
          exact hh)
        have HEb := Lib.hid (fun (u : World) (hu : Below w1.heap.size w1 u) => show Calls Tryz.prog 37 #[.agg #[.int .i64 p2i, .bool p2g, .slice p2A p2n p2c]] u (fun e w' => e = .returned (.agg #[.int .i64 kb, .string nb', .string mb, .int .u64 0, .int .i64 0, .slice none 0 0]) ∧ Below u.heap.size u w') from by
          have hh := end_ok (HKp.out u hu).b (fun x hx => hx) HGd.out.1.2.tri HM1.out.2
          unfold EndTPost valT at hh
          rw [heb, hlb] at hh
          exact hh)
        have HLa := Lib.hid hla
        have HLb := Lib.hid hlb
        obtain ⟨s, hs⟩ : ∃ s, cmpB ⟨p1i, p1g, p1A, p1n, p1c, p1l⟩ ⟨p2i, p2g, p2A, p2n, p2c, p2l⟩ = s := ⟨_, rfl⟩
        have HCm := Lib.hid (fun (u : World) (hu : Below w1.heap.size w1 u) => show Calls Tryz.prog 38 #[.agg #[.int .i64 p1i, .bool p1g, .slice p1A p1n p1c], .agg #[.int .i64 p2i, .bool p2g, .slice p2A p2n p2c]] u (fun e w' => e = .returned (.int .i64 s) ∧ Gr u w') from by
          have hh := fcmp_any (HKp.out u hu).a (HKp.out u hu).b (fun x hx => hx) HGd.out.1.1.tri HGd.out.1.2.tri
          simp only at hh
          rw [hs] at hh
          exact hh)
        have HCs := Lib.hid (show s = 0 ↔ ea = eb from by rw [← hs, ← hea, ← heb]; exact cmpB_eq HGd.out.1.1.tri HGd.out.1.2.tri)
        have HOa := Lib.hid (show okF (endT ea) ∧ okF (endT eb) from by
          have h1 := HGd.out.1.1.szE (HKp.out w1 (Below.refl _ _)).a.lim.len
          have h2 := HGd.out.1.2.szE (HKp.out w1 (Below.refl _ _)).b.lim.len
          simp only at h1 h2
          rw [hea] at h1
          rw [heb] at h2
          exact ⟨okF_end (by unfold EdOk; have := HM1.out.1; omega), okF_end (by unfold EdOk; have := HM1.out.2; omega)⟩)
        have HRe := Lib.hid (show (qs.map edsR)[k]? = some (ea, eb) from by rw [HPe.out]; unfold edsR; rw [hea, heb])
        have HB5 := Lib.hid (show Below w1.heap.size w1 w5 ∧ Below wr.heap.size wr w5 from ⟨HI.out.bel.trans (HBx.out.mono hw1), HBx.out⟩)
        clear hea heb hla hlb hs HPe HBx
        obtain ⟨x0, x1, x2, x3, x4, x5⟩ := HX.out.cells
        simp only at x0 x1 x2 x3 x4 x5
        go_upto_region 11 with (go_at_call 37; (with_reducible refine (HEa.out _ HB5.out.1).mono ?_); rintro e u1 ⟨rfl, hb1⟩; have HU1 := Lib.hid hb1; clear hb1 x0 x1 x2 x3 x4 x5)
        have hU1 := HU1.out.size
        have HU2 := Lib.hid (HU1.out.alloc HU1.out.size (.cells #[.int .i64 ka, .string na, .string ma, .int .u64 0, .int .i64 0, .slice none 0 0] 26))
        have HX2 := Lib.hid (TBox.newL u1 (sl := .slice none 0 0) HLa.out)
        generalize hgx : u1.heap.size = Gx at *
        generalize (u1.alloc (.cells #[.int .i64 ka, .string na, .string ma, .int .u64 0, .int .i64 0, .slice none 0 0] 26)) = u2 at *
        obtain ⟨x0, x1, x2, x3, x4, x5⟩ := (RBox.below HX.out HU2.out).cells
        simp only at x0 x1 x2 x3 x4 x5
        have HB6 := Lib.hid (show Below w1.heap.size w1 u2 from HB5.out.1.trans (HU2.out.mono (by have := HB5.out.1.size; omega)))
        clear hgx HU1
        by_cases hs0 : s = 0
        · subst hs0
          have HSp := Lib.hid (show spanT (ea, eb) = endT ea from if_pos (HCs.out.1 rfl))
          go_upto_region 13 with (go_at_call 38; (with_reducible refine (HCm.out _ HB6.out).mono ?_); rintro e u3 ⟨rfl, hg3⟩; have HU3 := Lib.hid hg3.bel; clear hg3 x0 x1 x2 x3 x4 x5)
          have HX3 := Lib.hid (show TBox u3 Gx (spanT (ea, eb)) (.slice none 0 0) from by rw [HSp.out]; exact TBox.below HX2.out HU3.out)
          have HL3 := Lib.hid (show ∀ sl, Ht.cells6 (spanT (ea, eb)) sl = [.int .i64 ka, .string na, .string ma, .int .u64 0, .int .i64 0, sl] from by rw [HSp.out]; exact HLa.out)
          have HA3 := Lib.hid (show TAtP u3 (fun b => w1.heap.size < b ∧ b < u3.heap.size ∧ b ≠ Gx) (spanT (ea, eb)) (.slice none 0 0) from by rw [HSp.out]; exact TAtP.leaf _ _ (end_as _) (by simp [maxLen]) HOa.out.1)
          have HB9 := Lib.hid (show Below wr.heap.size wr u3 from HB5.out.2.trans ((HU2.out.trans (HU3.out.mono HU2.out.size)).mono HB5.out.2.size))
          have HTb := Lib.hid (TBox.below HI.out.box HB9.out)
          have hu3 := HB9.out.size
          have HBw := Lib.hid (HI.out.bel.trans (HB9.out.mono hw1))
          have HTa := Lib.hid (show TAtP u3 (fun b => w1.heap.size < b ∧ b < u3.heap.size) T (.slice Ta n2 c2) from TAtP.keep _ HI.out.at_ (fun b hb => ⟨⟨hb.1, by omega⟩, HB9.out.block b hb.2⟩))
          obtain ⟨x0, x1, x2, x3, x4, x5⟩ := TBox.cellsL HX3.out HL3.out
          by_cases hk00 : k = 0
          · have hki0 : ((k : Int) == 0) = true := by rw [hk00]; rfl
            obtain ⟨f0, f1, f2, f3, f4, f5⟩ := TBox.frozens HTb.out
            obtain ⟨kT, nT, mT, bT, vT, hlT⟩ := tm_letters T
            obtain ⟨y0, y1, y2, y3, y4, y5⟩ := TBox.cellsL HTb.out hlT
            clear hlT
            have hset := TBox.setL (sl' := .slice none 0 0) HTb.out HL3.out
            go_wp2_with fail
            generalize (((((u3.setCell ⟨w1.heap.size, 0, none⟩ (.int .i64 ka)).setCell ⟨w1.heap.size, 1, none⟩ (.string na)).setCell ⟨w1.heap.size, 2, none⟩ (.string ma)).setCell ⟨w1.heap.size, 3, none⟩ (.int .u64 0)).setCell ⟨w1.heap.size, 4, none⟩ (.int .i64 0)).setCell ⟨w1.heap.size, 5, none⟩ (.slice none 0 0) = u4 at *
            have HS4 := Lib.hid hset
            have HT4 := Lib.hid (show TH w1 (spanT (ea, eb)) none 0 0 u4 from ⟨HBw.out.grown HS4.out.2 HBw.out.size (fun j e => by injection e with e; omega), HS4.out.1,
              TAtP.keep _ HA3.out (fun b hb => ⟨⟨hb.1, Nat.lt_of_lt_of_le hb.2.1 HS4.out.2.size⟩, HS4.out.2.block b hb.2.1 (fun e => by injection e with e; have := hb.1; omega)⟩)⟩)
            have HA4 := Lib.hid (show spanT (ea, eb) = accT ((qs.map edsR).take (k + 1)) from by
              rw [take_snoc HRe.out, hk00]; rfl)
            go_roundw
            case rel => exact ⟨k + 1, spanT (ea, eb), none, 0, 0, by omega, by go_num, HA4, HT4⟩
            case measure => simp [intOf]; omega
          · have hki0 : ((k : Int) == 0) = false := beq_eq_false_iff_ne.2 (by omega)
            obtain ⟨kT, nT, mT, bT, vT, hlT⟩ := tm_letters T
            obtain ⟨y0, y1, y2, y3, y4, y5⟩ := TBox.cellsL HTb.out hlT
            have HOf := Lib.hid (of_ok2 (w := u3) (P := fun b => w1.heap.size < b ∧ b < u3.heap.size) (ta := T) (tb := spanT (ea, eb)) (sa := .slice Ta n2 c2) (sb := .slice none 0 0) (s := sOr) (nb := ⟨#[92, 47]⟩) HTa.out (TAtP.wide HA3.out (fun b hb => ⟨hb.1, hb.2.1⟩)) (fun b hb => hb.2) rfl (by decide))
            unfold valT at HOf
            rw [hlT, HL3.out] at HOf
            have HLT := Lib.hid hlT
            clear hlT
            go_wp2_with (go_at_call 36; (with_reducible refine HOf.out.mono ?_); rintro e u4 ⟨A4, c4, rfl, hat4, hb4⟩; have HU4 := Lib.hid hb4; have HA4 := Lib.hid hat4; have HT4 := Lib.hid (TBox.below HTb.out hb4); clear hat4 hb4; obtain ⟨f0, f1, f2, f3, f4, f5⟩ := TBox.frozens HT4.out; obtain ⟨z0, z1, z2, z3, z4, z5⟩ := TBox.cellsL HT4.out HLT.out)
            have hset := TBox.setL (t' := cmpT sOr [T, spanT (ea, eb)]) (sl' := .slice A4 2 c4) (a0 := .int .i64 5) (a1 := .string ⟨#[92, 47]⟩) (a2 := .string ⟨#[]⟩) (a3 := .int .u64 0) (a4 := .int .i64 0) HT4.out (fun _ => rfl)
            generalize (((((u4.setCell ⟨w1.heap.size, 0, none⟩ (.int .i64 5)).setCell ⟨w1.heap.size, 1, none⟩ (.string ⟨#[92, 47]⟩)).setCell ⟨w1.heap.size, 2, none⟩ (.string ⟨#[]⟩)).setCell ⟨w1.heap.size, 3, none⟩ (.int .u64 0)).setCell ⟨w1.heap.size, 4, none⟩ (.int .i64 0)).setCell ⟨w1.heap.size, 5, none⟩ (.slice A4 2 c4) = u5 at *
            have HS5 := Lib.hid hset
            have HBw5 := Lib.hid (HBw.out.trans (HU4.out.mono HBw.out.size))
            have HT5 := Lib.hid (show TH w1 (cmpT sOr [T, spanT (ea, eb)]) A4 2 c4 u5 from ⟨HBw5.out.grown HS5.out.2 HBw5.out.size (fun j e => by injection e with e; omega), HS5.out.1,
              TAtP.keep _ HA4.out (fun b hb => by
                have hz := HS5.out.2.size
                have hz4 := HU4.out.size
                have hbb : w1.heap.size < b ∧ b < u4.heap.size := by
                  rcases hb with hb | hb
                  · omega
                  · omega
                exact ⟨⟨hbb.1, by omega⟩, HS5.out.2.block b hbb.2 (fun e => by injection e with e; omega)⟩)⟩)
            have HA5 := Lib.hid (show cmpT sOr [T, spanT (ea, eb)] = accT ((qs.map edsR).take (k + 1)) from by
              rw [take_snoc HRe.out, accT_snoc (fun e => by
                have h1 := congrArg List.length e
                rw [List.length_take, List.length_map, HLq.out.1] at h1
                simp at h1
                omega), ← HAc.out]; rfl)
            go_roundw
            case rel => exact ⟨k + 1, _, A4, 2, c4, by omega, by go_num, HA5, HT5⟩
            case measure => simp [intOf]; omega
        · have hs0b : (s == 0) = false := beq_eq_false_iff_ne.2 hs0
          have HSp := Lib.hid (show spanT (ea, eb) = cmpT sDots [endT ea, endT eb] from if_neg (fun e => hs0 (HCs.out.2 e)))
          go_upto_region 12 with (go_at_call 38; (with_reducible refine (HCm.out _ HB6.out).mono ?_); rintro e ux ⟨rfl, hg3⟩; have HUx := Lib.hid hg3.bel; clear hg3 x0 x1 x2 x3 x4 x5)
          have HB7 := Lib.hid (show Below w1.heap.size w1 ux from HB6.out.trans (HUx.out.mono (by have := HB6.out.size; omega)))
          have HXx := Lib.hid (TBox.below HX2.out HUx.out)
          have HXr := Lib.hid (RBox.below (RBox.below HX.out HU2.out) HUx.out)
          have hgxl : Gx < ux.heap.size := HXx.out.lt
          have HG5 := Lib.hid (show w5.heap.size ≤ Gx ∧ wr.heap.size ≤ w5.heap.size from ⟨by omega, HB5.out.2.size⟩)
          refine wp_region_U 5 (by kernel_rfl) (fun z9 K0 hs9 => ?_)
          refine tkW 0 (v := ?tv0_1) K0 rfl (by kernel_rfl) ?tq0_1 (by kernel_rfl) (fun z5 hS => ?ty0_1) ?_
          case ty0_1 => obtain ⟨y0, y1, y2, y3, y4, y5⟩ := TBox.cellsL (TBox.below HXx.out hS) HLa.out; go_simp; rfl
          case tq0_1 => exact fun _ _ _ h => h
          refine tkW 1 (v := ?tv1_2) K0 rfl (by kernel_rfl) ?tq1_2 (by kernel_rfl) (fun z5 hS => ?ty1_2) ?_
          case ty1_2 => go_simp; rfl
          case tq1_2 => exact fun _ _ _ h => h
          refine tkW 2 (v := ?tv2_3) K0 rfl (by kernel_rfl) ?tq2_3 (by kernel_rfl) (fun z5 hS => ?ty2_3) ?_
          case ty2_3 => obtain ⟨x0, x1, x2, x3, x4, x5⟩ := (HXr.out.below hS).cells; simp only at x0 x1 x2 x3 x4 x5; go_simp; rfl
          case tq2_3 => exact fun _ _ _ h => h
          refine wpAnyW_one (i := 3) (by kernel_rfl) rfl (fun K hK => ?_)
          go_simp
          (with_reducible refine (HEb.out z9 (HB7.out.trans (K0.mono HB7.out.size))).mono ?_)
          rintro e ua ⟨rfl, hba⟩
          have K1 := K0.trans (hba.mono K0.size)
          refine hK.out _ _ (fun _ => K1) ?_
          refine wpAnyW_one (i := 4) (by kernel_rfl) rfl (fun K hK => ?_)
          go_simp
          have HOf := Lib.hid (of_ok2 (w := ua) (P := fun b => False) (ta := endT ea) (tb := endT eb) (sa := .slice none 0 0) (sb := .slice none 0 0) (s := sDots) (nb := ⟨#[46, 46]⟩) (TAtP.leaf _ _ (end_as _) (by simp [maxLen]) HOa.out.1) (TAtP.leaf _ _ (end_as _) (by simp [maxLen]) HOa.out.2) (fun b hb => hb.elim) rfl (by decide))
          unfold valT at HOf
          rw [HLa.out, HLb.out] at HOf
          (with_reducible refine HOf.out.mono ?_)
          rintro e ub ⟨A4, c4, rfl, hat4, hb4⟩
          have K2 := K1.trans (hb4.mono K1.size)
          refine hK.out _ _ (fun _ => K2) ?_
          have HXb := Lib.hid (TBox.below HXx.out K2)
          obtain ⟨f0, f1, f2, f3, f4, f5⟩ := TBox.frozens HXb.out
          obtain ⟨y0, y1, y2, y3, y4, y5⟩ := TBox.cellsL HXb.out HLa.out
          have hset := TBox.setL (t' := cmpT sDots [endT ea, endT eb]) (sl' := .slice A4 2 c4) (a0 := .int .i64 5) (a1 := .string ⟨#[46, 46]⟩) (a2 := .string ⟨#[]⟩) (a3 := .int .u64 0) (a4 := .int .i64 0) HXb.out (fun _ => rfl)
          refine wpAnyW_one (i := 5) (by kernel_rfl) rfl (fun K hK => ?_)
          go_simp
          refine hK.out _ _ (fun h => absurd h (by simp)) ?_
          refine wpAnyW_done (by kernel_rfl) ?_ _
          have HKz := Lib.hid (And.intro K0.size (And.intro hba.size hb4.size))
          have HKb := Lib.hid K2
          have HAt4 := Lib.hid hat4
          clear f0 f1 f2 f3 f4 f5 y0 y1 y2 y3 y4 y5 K0 K1 K2 hba hb4 hat4 hs9 HOf
          generalize (((((ub.setCell ⟨Gx, 0, none⟩ (.int .i64 5)).setCell ⟨Gx, 1, none⟩ (.string ⟨#[46, 46]⟩)).setCell ⟨Gx, 2, none⟩ (.string ⟨#[]⟩)).setCell ⟨Gx, 3, none⟩ (.int .u64 0)).setCell ⟨Gx, 4, none⟩ (.int .i64 0)).setCell ⟨Gx, 5, none⟩ (.slice A4 2 c4) = u3 at *
          have HX3 := Lib.hid (show TBox u3 Gx (spanT (ea, eb)) (.slice A4 2 c4) from by rw [HSp.out]; exact hset.1)
          have HL3 := Lib.hid (show ∀ sl, Ht.cells6 (spanT (ea, eb)) sl = [.int .i64 5, .string ⟨#[46, 46]⟩, .string ⟨#[]⟩, .int .u64 0, .int .i64 0, sl] from by rw [HSp.out]; exact fun _ => rfl)
          have HGr := Lib.hid hset.2
          clear hset
          have HA3 := Lib.hid (show TAtP u3 (fun b => w1.heap.size < b ∧ b < u3.heap.size ∧ b ≠ Gx) (spanT (ea, eb)) (.slice A4 2 c4) from by
            rw [HSp.out]
            refine TAtP.keep _ HAt4.out (fun b hb => ?_)
            have h1 := HKz.out
            have h2 := HGr.out.size
            have h3 := HG5.out
            rcases hb with hb | hb
            · exact hb.elim
            · exact ⟨⟨by omega, by omega, by omega⟩, HGr.out.block b hb.2 (fun e => by injection e with e; omega)⟩)
          have HB9 := Lib.hid (show Below wr.heap.size wr u3 from (HB5.out.2.trans ((HU2.out.trans ((HUx.out.trans (HKb.out.mono HUx.out.size)).mono HU2.out.size)).mono HB5.out.2.size)).grown HGr.out (by have := HKz.out; have := HG5.out; omega) (fun j e => by injection e with e; have := HG5.out; omega))
          have HTb := Lib.hid (TBox.below HI.out.box HB9.out)
          have hu3 := HB9.out.size
          have HBw := Lib.hid (HI.out.bel.trans (HB9.out.mono hw1))
          have HTa := Lib.hid (show TAtP u3 (fun b => w1.heap.size < b ∧ b < u3.heap.size) T (.slice Ta n2 c2) from TAtP.keep _ HI.out.at_ (fun b hb => ⟨⟨hb.1, by omega⟩, HB9.out.block b hb.2⟩))
          obtain ⟨x0, x1, x2, x3, x4, x5⟩ := TBox.cellsL HX3.out HL3.out
          by_cases hk00 : k = 0
          · have hki0 : ((k : Int) == 0) = true := by rw [hk00]; rfl
            obtain ⟨f0, f1, f2, f3, f4, f5⟩ := TBox.frozens HTb.out
            obtain ⟨kT, nT, mT, bT, vT, hlT⟩ := tm_letters T
            obtain ⟨y0, y1, y2, y3, y4, y5⟩ := TBox.cellsL HTb.out hlT
            clear hlT
            have hset := TBox.setL (sl' := .slice A4 2 c4) HTb.out HL3.out
            go_wp2_with fail
            generalize (((((u3.setCell ⟨w1.heap.size, 0, none⟩ (.int .i64 5)).setCell ⟨w1.heap.size, 1, none⟩ (.string ⟨#[46, 46]⟩)).setCell ⟨w1.heap.size, 2, none⟩ (.string ⟨#[]⟩)).setCell ⟨w1.heap.size, 3, none⟩ (.int .u64 0)).setCell ⟨w1.heap.size, 4, none⟩ (.int .i64 0)).setCell ⟨w1.heap.size, 5, none⟩ (.slice A4 2 c4) = u4 at *
            have HS4 := Lib.hid hset
            have HT4 := Lib.hid (show TH w1 (spanT (ea, eb)) A4 2 c4 u4 from ⟨HBw.out.grown HS4.out.2 HBw.out.size (fun j e => by injection e with e; omega), HS4.out.1,
              TAtP.keep _ HA3.out (fun b hb => ⟨⟨hb.1, Nat.lt_of_lt_of_le hb.2.1 HS4.out.2.size⟩, HS4.out.2.block b hb.2.1 (fun e => by injection e with e; have := hb.1; omega)⟩)⟩)
            have HA4 := Lib.hid (show spanT (ea, eb) = accT ((qs.map edsR).take (k + 1)) from by
              rw [take_snoc HRe.out, hk00]; rfl)
            go_roundw
            case rel => exact ⟨k + 1, spanT (ea, eb), A4, 2, c4, by omega, by go_num, HA4, HT4⟩
            case measure => simp [intOf]; omega
          · have hki0 : ((k : Int) == 0) = false := beq_eq_false_iff_ne.2 (by omega)
            obtain ⟨kT, nT, mT, bT, vT, hlT⟩ := tm_letters T
            obtain ⟨y0, y1, y2, y3, y4, y5⟩ := TBox.cellsL HTb.out hlT
            have HOf := Lib.hid (of_ok2 (w := u3) (P := fun b => w1.heap.size < b ∧ b < u3.heap.size) (ta := T) (tb := spanT (ea, eb)) (sa := .slice Ta n2 c2) (sb := .slice A4 2 c4) (s := sOr) (nb := ⟨#[92, 47]⟩) HTa.out (TAtP.wide HA3.out (fun b hb => ⟨hb.1, hb.2.1⟩)) (fun b hb => hb.2) rfl (by decide))
            unfold valT at HOf
            rw [hlT, HL3.out] at HOf
            have HLT := Lib.hid hlT
            clear hlT
            go_wp2_with (go_at_call 36; (with_reducible refine HOf.out.mono ?_); rintro e u4 ⟨A6, c6, rfl, hat4, hb4⟩; have HU4 := Lib.hid hb4; have HA4 := Lib.hid hat4; have HT4 := Lib.hid (TBox.below HTb.out hb4); clear hat4 hb4; obtain ⟨f0, f1, f2, f3, f4, f5⟩ := TBox.frozens HT4.out; obtain ⟨z0, z1, z2, z3, z4, z5⟩ := TBox.cellsL HT4.out HLT.out)
            have hset := TBox.setL (t' := cmpT sOr [T, spanT (ea, eb)]) (sl' := .slice A6 2 c6) (a0 := .int .i64 5) (a1 := .string ⟨#[92, 47]⟩) (a2 := .string ⟨#[]⟩) (a3 := .int .u64 0) (a4 := .int .i64 0) HT4.out (fun _ => rfl)
            generalize (((((u4.setCell ⟨w1.heap.size, 0, none⟩ (.int .i64 5)).setCell ⟨w1.heap.size, 1, none⟩ (.string ⟨#[92, 47]⟩)).setCell ⟨w1.heap.size, 2, none⟩ (.string ⟨#[]⟩)).setCell ⟨w1.heap.size, 3, none⟩ (.int .u64 0)).setCell ⟨w1.heap.size, 4, none⟩ (.int .i64 0)).setCell ⟨w1.heap.size, 5, none⟩ (.slice A6 2 c6) = u5 at *
            have HS5 := Lib.hid hset
            have HBw5 := Lib.hid (HBw.out.trans (HU4.out.mono HBw.out.size))
            have HT5 := Lib.hid (show TH w1 (cmpT sOr [T, spanT (ea, eb)]) A6 2 c6 u5 from ⟨HBw5.out.grown HS5.out.2 HBw5.out.size (fun j e => by injection e with e; omega), HS5.out.1,
              TAtP.keep _ HA4.out (fun b hb => by
                have hz := HS5.out.2.size
                have hz4 := HU4.out.size
                have hbb : w1.heap.size < b ∧ b < u4.heap.size := by
                  rcases hb with hb | hb
                  · omega
                  · omega
                exact ⟨⟨hbb.1, by omega⟩, HS5.out.2.block b hbb.2 (fun e => by injection e with e; omega)⟩)⟩)
            have HA5 := Lib.hid (show cmpT sOr [T, spanT (ea, eb)] = accT ((qs.map edsR).take (k + 1)) from by
              rw [take_snoc HRe.out, accT_snoc (fun e => by
                have h1 := congrArg List.length e
                rw [List.length_take, List.length_map, HLq.out.1] at h1
                simp at h1
                omega), ← HAc.out]; rfl)
            go_roundw
            case rel => exact ⟨k + 1, _, A6, 2, c6, by omega, by go_num, HA5, HT5⟩
            case measure => simp [intOf]; omega
      · have hkk : n1 = k := by omega
        subst hkk
        have hki : ¬ ((n1 : Int) < (n1 : Int)) := by omega
        obtain ⟨kT, nT, mT, bT, vT, hlT⟩ := tm_letters T
        obtain ⟨y0, y1, y2, y3, y4, y5⟩ := TBox.cellsL HI.out.box hlT
        have HR := Lib.hid (show TBox wr (B + 1) zeroT (.slice none 0 0) from (HI.out.bel.block (B + 1) (by have := HZ1.out; omega)).trans HT1.out)
        obtain ⟨f0, f1, f2, f3, f4, f5⟩ := TBox.frozens HR.out
        obtain ⟨z0, z1, z2, z3, z4, z5⟩ := TBox.cells (nb := ⟨#[]⟩) (mb := ⟨#[]⟩) HR.out rfl rfl
        have HSe := Lib.hid (TBox.setL (sl' := .slice Ta n2 c2) HR.out hlT)
        have HLT := Lib.hid hlT
        clear hlT
        go_wp2_with fail
        generalize (((((wr.setCell ⟨B + 1, 0, none⟩ (.int .i64 kT)).setCell ⟨B + 1, 1, none⟩ (.string nT)).setCell ⟨B + 1, 2, none⟩ (.string mT)).setCell ⟨B + 1, 3, none⟩ (.int .u64 bT)).setCell ⟨B + 1, 4, none⟩ (.int .i64 vT)).setCell ⟨B + 1, 5, none⟩ (.slice Ta n2 c2) = w9 at *
        obtain ⟨r0, r1, r2, r3, r4, r5⟩ := TBox.cellsL HSe.out.1 HLT.out
        have HNe := Lib.hid (show qs.map edsR ≠ [] from fun e => by
          have h1 := congrArg List.length e
          rw [List.length_map, HLq.out.1] at h1
          exact HN0.out h1)
        have HTT := Lib.hid (show setT (qs.map edsR) = T from by
          rw [accT_set HNe.out, HAc.out, List.take_of_length_le (by rw [List.length_map, HLq.out.1]; exact Nat.le_refl _)])
        have HB9 := Lib.hid (show Below B w w9 from (HB1.out.trans (HI.out.bel.mono (by have := HZ1.out; omega))).grown HSe.out.2 (by have := HZ1.out; have := HI.out.bel.size; omega) (fun j e => by injection e with e; omega))
        have key : TermPostB B w (ps.map edsR) K M (.returned (.tuple #[.agg #[.int .i64 kT, .string nT, .string mT, .int .u64 bT, .int .i64 vT, .slice Ta n2 c2], .int .i64 0])) w9 :=
          ⟨qs.map edsR, .slice Ta n2 c2, HNf.out.1, HNf.out.2.2, by rw [List.length_map, HLq.out.1]; exact HLq.out.2.1, HNf.out.2.1, by rw [HTT.out]; unfold valT; rw [HLT.out], by
            rw [HTT.out]
            have hz := HSe.out.2.size
            have hz1 := HZ1.out
            exact TAtP.keep _ HI.out.at_ (fun b hb => ⟨⟨by have := hb.1; omega, by have := hb.2; omega⟩, HSe.out.2.block b hb.2 (fun e => by injection e with e; have := hb.1; omega)⟩), HB9.out⟩
        first
          | (go_ret; exact key)
          | exact bodyPost_ret (v := .tuple #[.agg #[.int .i64 kT, .string nT, .string mT, .int .u64 bT, .int .i64 vT, .slice Ta n2 c2], .int .i64 0]) (by simp [results, Tryz.results8, go_sem, r0, r1, r2, r3, r4, r5]) rfl key
end Go.Proofs.YtpikjceodmepiaaGreatDoor

