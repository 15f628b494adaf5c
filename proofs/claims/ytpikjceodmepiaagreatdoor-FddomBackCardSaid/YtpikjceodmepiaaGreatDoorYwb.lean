import Derived.Test.YtpikjceodmepiaaGreatDoorYvb
set_option linter.unusedVariables false
set_option linter.unusedSimpArgs false
namespace Go.Proofs.YtpikjceodmepiaaGreatDoor
open Go.RowKit Hb Hf
set_option linter.unusedVariables false
set_option linter.unusedSimpArgs false
attribute [local go_sem ↓] Go.wp_at_zero Go.wp_at_succ
/-! ### Scale -/
theorem pow128 : W ^ 128 = 2 ^ 4096 := by
  show 4294967296 ^ 128 = 2 ^ 4096
  decide +kernel
theorem short_of {x m : Nat} (h : x < W ^ m) (hm : m ≤ 128) : ¬ 4096 < blen x := by
  have h1 : x < 2 ^ 4096 := by rw [← pow128]; exact Nat.lt_of_lt_of_le h (Nat.pow_le_pow_right (by decide) hm)
  have h2 : blen x ≤ 4096 := blen_le_iff.2 h1
  omega
theorem lng_of {l : List Nat} (hd : Dig W l) (h : l.length ≤ 128) : lng l = false := decide_eq_false (short_of (nv_lt hd) h)
theorem long_mul {l m : List Nat} (hl : Dig W l) (hm : Dig W m) (na nb : Bool) (h : l.length + m.length ≤ 128) : tooLong (ival na l * ival nb m) = false := by
  refine decide_eq_false (short_of ?_ h)
  have h1 := lt_of_digs_length (b := W) (by decide) (mul_len hl hm rfl rfl na nb)
  exact h1
def TimesPost (w : World) (b : Bd) (n : Int) (e : Ending) (w' : World) : Prop :=
  ∃ d : Bd, e = .returned d.v ∧ d.At w' (Fr w.heap.size w') ∧ d.Nrm ∧ d.ed = mulE n b.ed ∧ Below w.heap.size w w'
set_option maxRecDepth 100000 in
set_option maxHeartbeats 2000000 in
theorem times_ok {b : Bd} {P : Nat → Prop} {w : World} {Gs Gn Gb nn nc : Nat} {ng : Bool} {nA : Option Addr} {nl : List Nat} {sg n : Int} (hb : b.At w P) (hP : ∀ x, P x → x < w.heap.size) (hN : b.Nrm)
    (hs : w.cell? ⟨Gs, 0, none⟩ = some (.int .i64 sg)) (hsl : Gs < w.heap.size) (hsg : (0 < n ∧ sg = 1) ∨ (n < 0 ∧ sg = -1)) (hn : IBox w Gn ng (.slice nA nn nc)) (hl : LimP w (fun x => x < w.heap.size) nA nn nc nl) (hv : ival ng nl = n) (hm : b.n + nn ≤ 128) :
    Calls Tryz.prog 59 #[b.v, .pointer (some ⟨Gs, 0, none⟩), .pointer (some ⟨Gn, 0, none⟩), .pointer (some ⟨Gb, 0, none⟩)] w (TimesPost w b n) := by
  have hG := ((Below.refl w.heap.size w).alloc (Nat.le_refl _) (.cells b.vals.toArray 67)).alloc (by simp) (.cells #[.int .i64 0, .bool false, .slice none 0 0] 67)
  have e1 := EBox.new w b
  have e2 : EBox ((w.alloc (.cells b.vals.toArray 67)).alloc (.cells #[.int .i64 0, .bool false, .slice none 0 0] 67)) (w.alloc (.cells b.vals.toArray 67)).heap.size (ib 0) := EBox.new (w.alloc (.cells b.vals.toArray 67)) (ib 0)
  have e3 := (EBox.below e1 (w' := (w.alloc (.cells b.vals.toArray 67)).alloc (.cells #[.int .i64 0, .bool false, .slice none 0 0] 67)) ((Below.refl _ _).alloc (Nat.le_refl _) _))
  rw [World.size_alloc] at e2
  have i3 := hn.below hG
  have c3 := (hG.cell (p := ⟨Gs, 0, none⟩) hsl).trans hs
  have HE := Lib.hid (And.intro e3 e2)
  have HG := Lib.hid hG
  have HIn := Lib.hid i3
  obtain ⟨x0, x1, x2⟩ := e3.cells
  obtain ⟨y0, y1, y2⟩ := e2.cells
  obtain ⟨f0, f1, f2⟩ := e2.frozens
  obtain ⟨k0, k1⟩ := i3.cells
  have HNr := Lib.hid hN
  have htr := hN.tri
  unfold Bd.Tri at htr
  by_cases h0 : b.i = 0
  · have HSl := Lib.hid (hb.lim.sl hP)
    have HNl := Lib.hid (hl.sl (B := w.heap.size) (fun _ h => h))
    have HD := Lib.hid (show mulE n b.ed = .num (ival b.g b.l * n) by rw [Bd.ed_zero h0]; rfl)
    have HTl := Lib.hid (show tooLong (ival b.g b.l * ival ng nl) = false from long_mul hb.lim.dig hl.dig _ _ (by rw [hb.lim.len, hl.len]; exact hm))
    have HLg := Lib.hid (show lng b.l = false ∧ lng nl = false from ⟨lng_of hb.lim.dig (by rw [hb.lim.len]; omega), lng_of hl.dig (by rw [hl.len]; omega)⟩)
    have HM := Lib.hid (fun w1 (h1 : Below w.heap.size w w1) => show Calls Tryz.prog 60 #[.agg #[.bool b.g, .slice b.A b.n b.c], .agg #[.bool ng, .slice nA nn nc]] w1 (PostC w1 (ival b.g b.l * n) 0) from by
      have h := Mul_any b.g ng (HSl.out.below h1 (Nat.le_refl _)) (HNl.out.below h1 (Nat.le_refl _)) (by omega) h1.size h1.size
      rw [HTl.out, HLg.out.1, HLg.out.2, hv] at h
      exact h)
    obtain ⟨bi, bg, bA, bn, bc, bl⟩ := b
    simp only at h0
    subst h0
    simp only [Bd.v, Bd.vals] at *
    clear hb hP hN htr hn hl hm hG e1 e2 e3 hv HTl HLg hs i3
    generalize ival bg bl * n = Z at *
    go_enter Tryz.func59, Tryz.ntmps59
    go_wp2_with (go_at_call 60; (with_reducible refine (HM.out _ HG.out).mono ?_); rintro e w3 ⟨v, rfl, hr, _, hb3⟩; obtain ⟨A3, c3, rfl, hat⟩ := (hr rfl).nb; have HB3 := Lib.hid hb3; have HAt := Lib.hid hat; have HX := Lib.hid ((EBox.below (HE.out.2.below hb3) ((Below.refl w3.heap.size w3).alloc (Nat.le_refl _) (.cells #[.bool (decide (Z < 0)), .slice A3 (digs W Z.natAbs).length c3] 56)))); clear hr hat hb3 y0 y1 y2 f0 f1 f2; obtain ⟨y0, y1, y2⟩ := HX.out.cells; obtain ⟨f0, f1, f2⟩ := HX.out.frozens)
    have HS := Lib.hid (HX.out.set3 (nb Z A3 c3))
    have HBw := Lib.hid ((HG.out.trans (HB3.out.mono HG.out.size)).alloc (Nat.le_trans HG.out.size HB3.out.size) (.cells #[.bool (decide (Z < 0)), .slice A3 (digs W Z.natAbs).length c3] 56))
    have hZ := HG.out.size
    have HA4 := Lib.hid ((HAt.out.keep (fun x hx => ⟨hx, ((Below.refl w3.heap.size w3).alloc (Nat.le_refl _) (.cells #[.bool (decide (Z < 0)), .slice A3 (digs W Z.natAbs).length c3] 56)).block x hx.2⟩) : Bd.At _ (Fr _ w3) (nb Z A3 c3)))
    have hz4 : w3.heap.size + 1 = (w3.alloc (.cells #[.bool (decide (Z < 0)), .slice A3 (digs W Z.natAbs).length c3] 56)).heap.size := by simp
    have hz2 : w.heap.size + 2 ≤ ((w.alloc (.cells #[.int .i64 0, .bool bg, .slice bA bn bc] 67)).alloc (.cells #[.int .i64 0, .bool false, .slice none 0 0] 67)).heap.size := by simp
    have hz3 := HB3.out.size
    simp only [nb] at HS
    generalize (((w3.alloc (.cells #[.bool (decide (Z < 0)), .slice A3 (digs W Z.natAbs).length c3] 56)).setCell ⟨w.heap.size + 1, 0, none⟩ (.int .i64 0)).setCell ⟨w.heap.size + 1, 1, none⟩ (.bool (decide (Z < 0)))).setCell ⟨w.heap.size + 1, 2, none⟩ (.slice A3 (digs W Z.natAbs).length c3) = w6 at *
    obtain ⟨r0, r1, r2⟩ := HS.out.1.cells
    have hz := HS.out.2.size
    refine bodyPost_ret (v := (nb Z A3 c3).v) (by simp [results, Tryz.results59, go_sem, r0, r1, r2]; rfl) rfl ⟨nb Z A3 c3, rfl, ?_, nb_nrm _ _ _, by rw [HD.out, nb_ed], HBw.out.grown HS.out.2 HBw.out.size (fun j e => by injection e with e; omega)⟩
    exact HA4.out.keep fun x hx => ⟨⟨by have := hx.1; omega, by have := hx.2; omega⟩, HS.out.2.block x (by have := hx.2; omega) (fun e => by injection e with e; have := hx.1; omega)⟩
  · have HI0 := Lib.hid h0
    obtain ⟨bi, bg, bA, bn, bc, bl⟩ := b
    simp only at h0 htr
    have hne : (bi == 0) = false := beq_eq_false_iff_ne.2 h0
    obtain ⟨q, hq⟩ : ∃ q, bi * sg = q := ⟨_, rfl⟩
    have hq1 : q = -1 ∨ q = 1 := by
      rw [← hq]
      rcases hsg with ⟨_, h⟩ | ⟨_, h⟩ <;> rcases htr with h2 | h2 | h2 <;> subst h <;> subst h2 <;> simp at *
    have hw : IntKind.i64.wrap q = q := by rcases hq1 with h | h <;> subst h <;> rfl
    have HD := Lib.hid (show (ib q).ed = mulE n (Bd.mk bi bg bA bn bc bl).ed by
      rcases hsg with ⟨hn1, h⟩ | ⟨hn1, h⟩ <;> rcases htr with h2 | h2 | h2 <;> subst h <;> subst h2 <;> simp at hq h0 <;> subst hq <;> simp [Bd.ed, ib, mulE, hn1, show ¬ (0 < n ∧ n < 0) by omega] <;> omega)
    have HQ := Lib.hid hq1
    simp only [Bd.v, Bd.vals] at *
    clear hb hP hN htr hn hl hm hG e1 e2 e3 hv hs i3 hsg hq1 h0
    go_enter Tryz.func59, Tryz.ntmps59
    go_wp2
    have HX := EBox.new (w.alloc (.cells #[.int .i64 bi, .bool bg, .slice bA bn bc] 67)) (ib q)
    rw [World.size_alloc] at HX
    obtain ⟨r0, r1, r2⟩ := HX.cells
    simp only [ib, Bd.vals] at r0 r1 r2
    refine bodyPost_ret (v := (ib q).v) (by simp [results, Tryz.results59, go_sem, r0, r1, r2, Bd.v, Bd.vals, ib]) rfl ⟨ib q, rfl, ib_at _ _ (by have := HQ.out; omega), ib_nrm HQ.out, HD.out, ((Below.refl w.heap.size w).alloc (Nat.le_refl _) _).alloc (by simp) _⟩
def ScalePost (w : World) (L : List R) (n : Int) (K M : Nat) (e : Ending) (w' : World) : Prop :=
  ∃ A m c qs N, NF N ∧ (∀ z, Hf.mem z N ↔ Hf.mem z L) ∧ e = .returned (.tuple #[.slice A m c, .int .i64 0]) ∧ SOut w' w.heap.size A m c qs K M ∧ (∀ z, Hf.mem z (qs.map edsR) ↔ Hf.mem z (N.map (scR n))) ∧ Below w.heap.size w w'
abbrev V3 (w : World) (A A' : Option Addr) (n c n' c' : Nat) (g : Bool) : World :=
  (((w.alloc (.cells #[.slice A n c] 22)).alloc (.cells #[.bool g, .slice A' n' c'] 56)).alloc (.cells #[.bool g, .slice A' n' c'] 56)).alloc (.cells #[.pointer (some ⟨w.heap.size, 0, none⟩)] 89)
theorem V3_facts (w : World) (A A' : Option Addr) (n c n' c' : Nat) (g : Bool) : Below w.heap.size w (V3 w A A' n c n' c' g) ∧ (V3 w A A' n c n' c' g).heap.size = w.heap.size + 4 ∧ VBox (V3 w A A' n c n' c' g) w.heap.size A n c ∧ IBox (V3 w A A' n c n' c' g) (w.heap.size + 1) g (.slice A' n' c') ∧
    IBox (V3 w A A' n c n' c' g) (w.heap.size + 2) g (.slice A' n' c') ∧ (V3 w A A' n c n' c' g).cell? ⟨w.heap.size + 3, 0, none⟩ = some (.pointer (some ⟨w.heap.size, 0, none⟩)) := by
  refine ⟨((((Below.refl _ _).alloc (Nat.le_refl _) _).alloc (by simp) _).alloc (by simp; omega) _).alloc (by simp; omega) _, by simp, ?_, ?_, ?_, ?_⟩
  · have h0 : VBox (w.alloc (.cells #[.slice A n c] 22)) w.heap.size A n c := heap_alloc_new w _
    exact (((((Below.refl _ _).alloc (Nat.le_refl _) _).alloc (by simp) _).alloc (by simp) _).block w.heap.size (by simp)).trans h0
  · have h0 := heap_alloc_new (w.alloc (.cells #[.slice A n c] 22)) (.cells #[.bool g, .slice A' n' c'] 56)
    rw [World.size_alloc] at h0
    exact ((((Below.refl _ _).alloc (Nat.le_refl _) _).alloc (by simp) _).block (w.heap.size + 1) (by simp)).trans h0
  · have h0 := heap_alloc_new ((w.alloc (.cells #[.slice A n c] 22)).alloc (.cells #[.bool g, .slice A' n' c'] 56)) (.cells #[.bool g, .slice A' n' c'] 56)
    simp only [World.size_alloc] at h0
    exact (((Below.refl _ _).alloc (Nat.le_refl _) _).block (w.heap.size + 2) (by simp)).trans h0
  · have := heap_alloc_new (((w.alloc (.cells #[.slice A n c] 22)).alloc (.cells #[.bool g, .slice A' n' c'] 56)).alloc (.cells #[.bool g, .slice A' n' c'] 56)) (.cells #[.pointer (some ⟨w.heap.size, 0, none⟩)] 89)
    simp only [World.size_alloc] at this
    rw [cell_of_row _ _ 0 _ _ (0, 0) this]
    rfl
theorem V3_take {w : World} {P : Nat → Prop} {A A' : Option Addr} {n c n' c' K M : Nat} {g : Bool} {l : List Nat} {ps : List Rg} (h : SIn w P A n c ps K M) (hl : LimP w P A' n' c' l) (hn : n' ≤ 128) (hP : ∀ b, P b → b < w.heap.size) (hK : K ≤ 1000) (hM : M ≤ 128) :
    Calls Tryz.prog 35 #[.slice (some ⟨w.heap.size + 1 + 1, 0, none⟩) 1 1, .slice (some ⟨w.heap.size + 1 + 1 + 1, 0, none⟩) 1 1] (V3 w A A' n c n' c' g) fun e w' => e = .returned (.int .i64 0) ∧ Below w.heap.size w w' ∧ w.heap.size + 4 ≤ w'.heap.size ∧ IBox w' (w.heap.size + 1) g (.slice A' n' c') ∧
      ∃ A1 n1 c1 qs, VBox w' w.heap.size A1 n1 c1 ∧ SOut w' (w.heap.size + 4) A1 n1 c1 qs K M ∧ (∀ z, Hf.mem z (qs.map edsR) ↔ Hf.mem z (ps.map edsR)) := by
  obtain ⟨hb, hz, hv, hi, hi2, hc⟩ := V3_facts w A A' n c n' c' g
  have hk := h.keep (Q := P) (fun b hb2 => ⟨hb2, hb.block b (hP b hb2)⟩)
  have hl2 := hl.keep (Q := P) (fun b hb2 => ⟨hb2, hb.block b (hP b hb2)⟩)
  generalize V3 w A A' n c n' c' g = W at *
  have hin : InIn W (some ⟨w.heap.size + 2, 0, none⟩) [⟨g, A', n', c', l⟩] := ⟨fun j x hx => by
    match j with
    | 0 =>
      cases hx
      exact ⟨_, 0, rfl, by omega, hi2.cells⟩
    | j + 1 => simp at hx, fun x hx => by
    rw [List.mem_singleton.1 hx]
    exact ⟨hl2.sl (fun b hb2 => by have := hP b hb2; omega), by simp only; omega⟩⟩
  refine (take1 (r := 1) (ci := 1) hk (fun b hb2 => ⟨by have := hP b hb2; omega, by have := hP b hb2; omega⟩) hv hc (by omega) (by omega) hin (fun x hx => by rw [List.mem_singleton.1 hx]; exact lng_of hl.dig (by rw [hl.len]; exact hn)) rfl (by omega) hK hM).mono fun e w' ⟨he, hch, hd⟩ => ?_
  have hs3 := hch.size
  rw [hz] at hs3 hd
  exact ⟨he, hb.trans (hch.below (by omega) (fun ad had => by simp at had; omega)), hs3, (hch.block (w.heap.size + 1) (by omega) (by simp)).trans hi, hd⟩
theorem szE_mul {e : Ed} {l : List Nat} {g : Bool} {z : Int} {n' : Nat} (hd : Dig W l) (hl : l.length = n') (hz : ival g l = z) : szE (mulE z e) ≤ szE e + n' := by
  cases e with
  | num x =>
    have h := mul_len (dig_digs (b := W) (by decide) x.natAbs) hd rfl hl (decide (x < 0)) g
    rw [ival_digs, hz] at h
    exact h
  | lo => simp only [mulE]; split <;> simp [szE]
  | hi => simp only [mulE]; split <;> simp [szE]
theorem eds_step {rs qs : List Rg} {k : Nat} {p q : Rg} {f : R → R} (h : rs.map edsR = ((qs.take k).map edsR).map f ++ (qs.drop k).map edsR) (hp : qs[k]? = some p) (hq : edsR q = f (edsR p)) :
    (rs.set k q).map edsR = ((qs.take (k + 1)).map edsR).map f ++ (qs.drop (k + 1)).map edsR := by
  have hk := (List.getElem?_eq_some_iff.1 hp).1
  have hd : qs.drop k = p :: qs.drop (k + 1) := by
    rw [List.drop_eq_getElem_cons hk]
    congr 1
    exact (List.getElem?_eq_some_iff.1 hp).2
  have hl : (((qs.take k).map edsR).map f).length = k := by simp; omega
  rw [List.map_set, h, List.set_append_right _ _ (by omega), hl, Nat.sub_self, hd, List.map_cons, List.set_cons_zero, List.take_add_one, hp]
  simp [hq]
section
variable {P : Program} {ops : Array Oper} {Q : Exit → Act → World → Prop} {md : Region.Mode} {S : World → Prop}
theorem wpAnyW_true {st : Nat} : ∀ (fuel : Nat) (listed : Array Bool) (a : Act) (w : World), wpAny P md ops Q fuel listed a w → wpAnyW P md ops Q (fun _ => True) st fuel listed a w
  | 0, _, _, _, h => h
  | fuel + 1, _, _, _, h => ⟨h.1, fun i hi => wpOp_mono (fun a' w' h' => ⟨fun _ => trivial, wpAnyW_true fuel _ a' w' h'⟩) (h.2 i hi)⟩
/-- S and st are picked anew -/
theorem wpAnyW_turn {st : Nat} (st' : Nat) {fuel : Nat} {listed : Array Bool} {a : Act} {w : World} (h : wpAnyW P md ops Q S st' fuel listed a w) : wpAnyW P md ops Q (fun _ => True) st fuel listed a w := wpAnyW_true _ _ _ _ (wpAny_of_wait _ _ _ _ h)
theorem getD_keep {listed : Array Bool} {i st : Nat} (h : listed.getD st true = true) : (listed.setIfInBounds i true).getD st true = true := by
  by_cases e : i = st
  · subst e
    rcases Nat.lt_or_ge i listed.size with h' | h'
    · simp [h']
    · simp [Array.getElem?_eq_none, h']
  · rw [getD_set_ne true e]; exact h
theorem wpAnyW_past {st : Nat} : ∀ (fuel : Nat) (listed : Array Bool) (a : Act) (w : World), listed.getD st true = true → wpAny P md ops Q fuel listed a w → wpAnyW P md ops Q S st fuel listed a w
  | 0, _, _, _, _, h => h
  | fuel + 1, _, _, _, hl, h => ⟨h.1, fun i hi => wpOp_mono (fun a' w' h' => ⟨fun e => (by rw [getD_keep hl] at e; cases e), wpAnyW_past fuel _ a' w' (getD_keep hl) h'⟩) (h.2 i hi)⟩
/-- st comes up before st' does -/
theorem wpAnyW_sooner {st st' k : Nat} (h1 : waitsFor md ops st' k = true) (h2 : waitsFor md ops k st = true) : ∀ (fuel : Nat) (listed : Array Bool) (a : Act) (w : World), listed.getD st' true = false → listed.getD k true = false →
    wpAnyW P md ops Q S st' fuel listed a w → wpAnyW P md ops Q S st fuel listed a w
  | 0, _, _, _, _, _, h => h
  | fuel + 1, listed, a, w, hs, hk, h => by
    refine ⟨h.1, fun i hi => wpOp_mono (fun a' w' h' => ?_) (h.2 i hi)⟩
    rcases Bool.eq_false_or_eq_true ((listed.setIfInBounds i true).getD st true) with e | e
    · exact ⟨fun e2 => (by rw [e] at e2; cases e2), wpAnyW_past fuel _ a' w' e (wpAny_of_wait _ _ _ _ h'.2)⟩
    · have e0 : listed.getD st true = false := by
        rcases Bool.eq_false_or_eq_true (listed.getD st true) with e1 | e1
        · rw [getD_keep e1] at e; cases e
        · exact e1
      have n1 : i ≠ k := fun x => not_ready_of_unlisted h2 e0 (x ▸ hi)
      have n2 : i ≠ st' := fun x => not_ready_of_unlisted h1 hk (x ▸ hi)
      have hs' : (listed.setIfInBounds i true).getD st' true = false := by rw [getD_set_ne true n2]; exact hs
      exact ⟨fun _ => h'.1 hs', wpAnyW_sooner h1 h2 fuel _ a' w' hs' (by rw [getD_set_ne true n1]; exact hk) h'.2⟩
theorem wp_region_T {id : Nat} {a : Act} {w : World} (st : Nat) (hm : P.follows .mixedOrders = true)
    (h : ∀ z, Below w.heap.size w z → z.heap.size = w.heap.size → wpAnyW P .any ops Q (fun _ => True) st ops.size (Array.replicate ops.size false) a z) : (Code.region id ops true).wp P Q a w :=
  wp_region_wait _ st hm (h w.drew (Below.refl _ _).drew rfl)
end
theorem sc_drop {rs qs : List Rg} {k : Nat} {q : Rg} (h : rs.drop k = qs.drop k) : (rs.set k q).drop (k + 1) = qs.drop (k + 1) := by
  rw [List.drop_set_of_lt (by omega), ← List.drop_drop, ← List.drop_drop (l := qs)]
  first
    | rw [h]
    | (rw [Nat.add_comm, ← List.drop_drop, h, List.drop_drop])
/-- the loop's head -/
structure SC (w : World) (B G n1 c1 n' c' : Nat) (g : Bool) (A1 A' : Option Addr) (z sg : Int) (qs : List Rg) (k : Nat) (rs : List Rg) (wr : World) : Prop where
  bel : Below B w wr
  box : VBox wr B A1 n1 c1
  int : IBox wr (B + 1) g (.slice A' n' c')
  sgn : wr.cell? ⟨G, 0, none⟩ = some (.int .i64 sg)
  bad : wr.cell? ⟨G + 1, 0, none⟩ = some (.int .i64 0)
  lt : G + 1 < wr.heap.size
  row : RRow wr (B + 4) (Fr (B + 4) wr) A1 n1 c1 rs
  blk : ∀ R, A1 = some ⟨R, 0, none⟩ → R < G
  gd : ∀ q ∈ rs, Gd q
  eds : rs.map edsR = ((qs.take k).map edsR).map (scR z) ++ (qs.drop k).map edsR
  same : rs.drop k = qs.drop k
set_option maxRecDepth 100000 in
set_option maxHeartbeats 8000000 in
theorem Scale_ok {w : World} {P : Nat → Prop} {A A' : Option Addr} {n c n' c' K M : Nat} {g : Bool} {l : List Nat} {ps : List Rg} {z : Int} (h : SIn w P A n c ps K M) (hl : LimP w P A' n' c' l) (hP : ∀ b, P b → b < w.heap.size) (hK : K ≤ 1000) (hM : M + n' ≤ 128) (hz : ival g l = z) (hz0 : z ≠ 0) :
    Calls Tryz.prog 22 #[.slice A n c, .agg #[.bool g, .slice A' n' c']] w (ScalePost w (ps.map edsR) z K (M + n')) := by
  obtain ⟨B, hB⟩ : ∃ B, w.heap.size = B := ⟨_, rfl⟩
  have HB := Lib.hid hB
  have HT := Lib.hid (V3_take (g := g) h hl (by omega) hP hK (by omega))
  have HKM := Lib.hid (And.intro hK hM)
  have HP := Lib.hid hP
  have HL := Lib.hid hl
  obtain ⟨sg, hsg⟩ : ∃ sg, z.sign = sg := ⟨_, rfl⟩
  have HZ := Lib.hid (show (0 < z ∧ sg = 1) ∨ (z < 0 ∧ sg = -1) from by
    rw [← hsg]
    rcases Int.lt_trichotomy z 0 with h | h | h
    · exact .inr ⟨h, Int.sign_eq_neg_one_of_neg h⟩
    · exact absurd h hz0
    · exact .inl ⟨h, Int.sign_eq_one_of_pos h⟩)
  have hsgn : (sg == 0) = false := beq_eq_false_iff_ne.2 (by rcases HZ.out with h | h <;> omega)
  have HSg := Lib.hid (fun w1 (hb : Below B w w1) => show Calls Tryz.prog 21 #[.agg #[.bool g, .slice A' n' c']] w1 (fun e w' => e = .returned (.int .i64 sg) ∧ Gr w1 w') from by
    have hx := sign_gr g (w := w1) (B := w.heap.size) ((hl.sl hP).below (C := w.heap.size) (by rw [hB]; exact hb) (Nat.le_refl _)) (by rw [hB]; have := hb.size; omega)
    rw [hz, hsg] at hx
    exact hx)
  have HV := Lib.hid hz
  unfold ScalePost
  rw [hB]
  unfold V3 at HT
  rw [hB] at HT
  clear h hl hP hK hM hB hz hsg
  go_enter Tryz.func22, Tryz.ntmps22
  go_wp2_with fail
  rw [HB.out]
  (with_reducible refine HT.out.mono ?_)
  rintro e w1 ⟨rfl, hb1, hz1, hi1, A1, n1, c1, qs, hv1, ho1, hm1⟩
  have HB1 := Lib.hid hb1
  have HZ1 := Lib.hid hz1
  have HI1 := Lib.hid hi1
  have HV1 := Lib.hid hv1
  have HO1 := Lib.hid ho1
  have HM1 := Lib.hid hm1
  obtain ⟨v0, _⟩ := hv1.cell
  obtain ⟨i0, i1⟩ := hi1.cells
  clear hb1 hz1 hi1 hv1 ho1 hm1 HT
  go_wp2_with (go_at_call 21; (with_reducible refine (HSg.out _ HB1.out).mono ?_); rintro e w2 ⟨rfl, hg2⟩; have HG2 := Lib.hid hg2; have HV2 := Lib.hid (show VBox w2 B A1 n1 c1 from (hg2.bel.block B (by have := HZ1.out; omega)).trans HV1.out); have HV3 := Lib.hid (show VBox ((w2.alloc (.cells #[.int .i64 sg] 3)).alloc (.cells #[.int .i64 0] 31)) B A1 n1 c1 from ((((Below.refl w2.heap.size w2).alloc (Nat.le_refl _) _).alloc (by simp) _).block B (by have := HV2.out.lt; omega)).trans HV2.out); have v2 := HV3.out.cell.1; clear v0 i0 i1)
  have HC3 := Lib.hid (show Below w2.heap.size w2 ((w2.alloc (.cells #[.int .i64 sg] 3)).alloc (.cells #[.int .i64 0] 31)) from ((Below.refl w2.heap.size w2).alloc (Nat.le_refl _) _).alloc (by simp) _)
  have HBe := Lib.hid (HB1.out.trans (HG2.out.bel.mono (by have := HZ1.out; omega)))
  have HSC := Lib.hid (show SC w B w2.heap.size n1 c1 n' c' g A1 A' z sg qs 0 qs ((w2.alloc (.cells #[.int .i64 sg] 3)).alloc (.cells #[.int .i64 0] 31)) from
    ⟨HBe.out.trans (HC3.out.mono (by have := HBe.out.size; have := HB.out; omega)), HV3.out, (HI1.out.below HG2.out.bel).below HC3.out, by
      rw [World.cell?_alloc_past _ _ _ (show w2.heap.size < (w2.alloc (.cells #[.int .i64 sg] 3)).heap.size by simp)]
      have := heap_alloc_new w2 (.cells #[.int .i64 sg] 3)
      rw [cell_of_row _ _ 0 _ _ (0, 0) this]
      rfl, by
      have := heap_alloc_new (w2.alloc (.cells #[.int .i64 sg] 3)) (.cells #[.int .i64 0] 31)
      rw [World.size_alloc] at this
      rw [cell_of_row _ _ 0 _ _ (0, 0) this]
      rfl, by simp, ((HO1.out.below HG2.out.bel).below HC3.out).row, fun R hR => by
      rcases HO1.out.row.block with ⟨h1, _⟩ | ⟨R2, h1, _, h2, _⟩
      · rw [h1] at hR; cases hR
      · rw [h1] at hR; injection hR with hR; injection hR with hR; have := HG2.out.bel.size; omega, HO1.out.gd, by simp, rfl⟩)
  have HLq := Lib.hid (show qs.length = n1 ∧ n1 ≤ K ∧ n1 ≤ 1000 from ⟨HO1.out.row.len, HO1.out.len, Nat.le_trans HO1.out.len HKM.out.1⟩)
  have hn9 : n1 ≤ 1000 := HLq.out.2.2
  obtain ⟨G, hG⟩ : ∃ G, w2.heap.size = G := ⟨_, rfl⟩
  have HGz := Lib.hid (show B + 4 ≤ G from by have := HZ1.out; have := HG2.out.bel.size; omega)
  rw [hG] at HSC
  have HNf := Lib.hid (And.intro HO1.out.nf (And.intro HO1.out.bnd HM1.out))
  clear HB1 HV1 HV2 HV3 HI1 HM1 HG2 HC3 HBe HSg HZ1 v2 HO1
  rw [hG]
  clear hG
  go_loopw [34] (fun vi wr => ∃ k rs, k ≤ n1 ∧ vi = .int .i64 (k : Nat) ∧ Hid (SC w B G n1 c1 n' c' g A1 A' z sg qs k rs wr)) (fun vi _ => n1 - (intOf vi).toNat)
  case atStart => exact ⟨0, qs, Nat.zero_le _, rfl, HSC⟩
  case round =>
    obtain ⟨k, rs, hk, rfl, HI⟩ := hrel
    clear HSC
    by_cases hkn : k < n1
    · have hlr := HI.out.row.len
      obtain ⟨R, rfl, hR1, hR2, _⟩ := HI.out.row.some_ (by omega)
      obtain ⟨p, hp⟩ : ∃ p, rs[k]? = some p := ⟨rs[k]'(by omega), by simp⟩
      have HPq := Lib.hid (show qs[k]? = some p from by
        have h1 : (rs.drop k)[0]? = some p := by rw [List.getElem?_drop]; exact hp
        rw [HI.out.same, List.getElem?_drop] at h1
        exact h1)
      have HPr := Lib.hid hp
      obtain ⟨i0, i1, i2, i3, i4, i5⟩ := HI.out.row.cells_at hp
      have hpm := List.mem_of_getElem? hp
      have HGd := Lib.hid (HI.out.gd p hpm)
      have HKp := Lib.hid (HI.out.row.kid p hpm)
      have hX := RBox.new wr p
      have HBx := Lib.hid (show Below wr.heap.size wr (wr.alloc (.cells (cells6 p).toArray 69)) from (Below.refl _ _).alloc (Nat.le_refl _) _)
      obtain ⟨⟨p1i, p1g, p1A, p1n, p1c, p1l⟩, ⟨p2i, p2g, p2A, p2n, p2c, p2l⟩⟩ := p
      have HX := Lib.hid hX
      simp only [cells6_eq] at HX HBx
      simp only at i0 i1 i2 i3 i4 i5
      have hki : (k : Int) < (n1 : Int) := by omega
      have hk0 : (0 : Int) ≤ (k : Int) := by omega
      have hlt := HI.out.lt
      have HRG := Lib.hid (HI.out.blk R rfl)
      clear hp hX hlr
      go_upto_region 14 with fail
      have HKa := Lib.hid (show Bd.At wr (fun x => x < wr.heap.size) ⟨p1i, p1g, p1A, p1n, p1c, p1l⟩ from HKp.out.a.wide (fun b hb => hb.1.2))
      have HKb := Lib.hid (show Bd.At wr (fun x => x < wr.heap.size) ⟨p2i, p2g, p2A, p2n, p2c, p2l⟩ from HKp.out.b.wide (fun b hb => hb.1.2))
      have hM1 : p1n ≤ M ∧ p2n ≤ M := by
        have h1 := HNf.out.2.1 _ (List.mem_map.2 ⟨_, List.mem_of_getElem? HPq.out, rfl⟩)
        have h2 := HGd.out.1.1.szE HKa.out.lim.len
        have h3 := HGd.out.1.2.szE HKb.out.lim.len
        simp only at h2 h3
        rw [h2, h3]
        exact h1
      have HLw := Lib.hid (fun y (hy : Below wr.heap.size wr y) => show LimP y (fun x => x < y.heap.size) A' n' c' l from
        HL.out.keep (fun b hb => ⟨by have := HP.out b hb; have := HI.out.bel.size; have := hy.size; have := HB.out; omega, ((HI.out.bel.trans (hy.mono (by have := HI.out.bel.size; have := HB.out; omega))).block b (by have := HP.out b hb; have := HB.out; omega))⟩))
      have HTm1 := Lib.hid (fun y (hy : Below wr.heap.size wr y) => times_ok (w := y) (Gs := G) (Gn := B + 1) (Gb := G + 1) (HKa.out.keep (Q := fun x => x < y.heap.size) (fun x hx => ⟨by have := hy.size; omega, hy.block x hx⟩)) (fun _ h => h) HGd.out.1.1
        ((hy.cell (p := ⟨G, 0, none⟩) (show G < wr.heap.size by omega)).trans HI.out.sgn) (by have := hy.size; omega) HZ.out (HI.out.int.below hy) (HLw.out y hy) HV.out (by have := HKM.out.2; simp only; omega))
      have HTm2 := Lib.hid (fun y (hy : Below wr.heap.size wr y) => times_ok (w := y) (Gs := G) (Gn := B + 1) (Gb := G + 1) (HKb.out.keep (Q := fun x => x < y.heap.size) (fun x hx => ⟨by have := hy.size; omega, hy.block x hx⟩)) (fun _ h => h) HGd.out.1.2
        ((hy.cell (p := ⟨G, 0, none⟩) (show G < wr.heap.size by omega)).trans HI.out.sgn) (by have := hy.size; omega) HZ.out (HI.out.int.below hy) (HLw.out y hy) HV.out (by have := HKM.out.2; simp only; omega))
      simp only [Bd.v, Bd.vals] at HTm1 HTm2
      have HV5 := Lib.hid (show VBox _ B (some ⟨R, 0, none⟩) n1 c1 from (HBx.out.block B HI.out.box.lt).trans HI.out.box)
      clear i0 i1 i2 i3 i4 i5 hpm
      generalize (wr.alloc (.cells #[.int .i64 p1i, .bool p1g, .slice p1A p1n p1c, .int .i64 p2i, .bool p2g, .slice p2A p2n p2c] 69)) = w5 at *
      refine wp_region_U 12 (by kernel_rfl) (fun z9 K0 hs0 => ?_)
      refine tkW 0 (v := ?tv0_1) K0 rfl (by kernel_rfl) ?tq0_1 (by kernel_rfl) (fun z5 hS => ?ty0_1) ?_
      case ty0_1 => have q0 := (VBox.cell ((hS.block B HV5.out.lt).trans HV5.out)).1; go_simp; rfl
      case tq0_1 => exact fun _ _ _ h => h
      refine tkW 1 (v := ?tv1_2) K0 rfl (by kernel_rfl) ?tq1_2 (by kernel_rfl) (fun z5 hS => ?ty1_2) ?_
      case ty1_2 => go_simp; rfl
      case tq1_2 => exact fun _ _ _ h => h
      refine tkW 2 (v := ?tv2_3) K0 rfl (by kernel_rfl) ?tq2_3 (by kernel_rfl) (fun z5 hS => ?ty2_3) ?_
      case ty2_3 => go_simp; rfl
      case tq2_3 => exact fun _ _ _ h => h
      refine tkW 3 (v := ?tv3_4) K0 rfl (by kernel_rfl) ?tq3_4 (by kernel_rfl) (fun z5 hS => ?ty3_4) ?_
      case ty3_4 => go_simp; rfl
      case tq3_4 => exact fun _ _ _ h => h
      refine tkW 4 (v := ?tv4_5) K0 rfl (by kernel_rfl) ?tq4_5 (by kernel_rfl) (fun z5 hS => ?ty4_5) ?_
      case ty4_5 => obtain ⟨x0, x1, x2, x3, x4, x5⟩ := (HX.out.below hS).cells; simp only at x0 x1 x2 x3 x4 x5; go_simp; rfl
      case tq4_5 => exact fun _ _ _ h => h
      refine tkW 6 (v := ?tv6_6) K0 rfl (by kernel_rfl) ?tq6_6 (by kernel_rfl) (fun z5 hS => ?ty6_6) ?_
      case ty6_6 => go_simp; rfl
      case tq6_6 => exact fun _ _ _ h => h
      refine tkW 7 (v := ?tv7_7) K0 rfl (by kernel_rfl) ?tq7_7 (by kernel_rfl) (fun z5 hS => ?ty7_7) ?_
      case ty7_7 => go_simp; rfl
      case tq7_7 => exact fun _ _ _ h => h
      refine tkW 8 (v := ?tv8_8) K0 rfl (by kernel_rfl) ?tq8_8 (by kernel_rfl) (fun z5 hS => ?ty8_8) ?_
      case ty8_8 => obtain ⟨x0, x1, x2, x3, x4, x5⟩ := (HX.out.below hS).cells; simp only at x0 x1 x2 x3 x4 x5; go_simp; rfl
      case tq8_8 => exact fun _ _ _ h => h
      refine wpAnyW_one (i := 5) (by kernel_rfl) rfl (fun K hK => ?_)
      go_simp
      (with_reducible refine (HTm1.out z9 (HBx.out.trans (K0.mono HBx.out.size))).mono ?_)
      rintro e u1 ⟨⟨ai, ag, aA, an, ac, al⟩, rfl, hat1, hnr1, hed1, hb1⟩
      have K1 := K0.trans (hb1.mono K0.size)
      refine hK.out _ _ (fun _ => K1) ?_
      refine wpAnyW_one (i := 9) (by kernel_rfl) rfl (fun K hK => ?_)
      go_simp
      (with_reducible refine (HTm2.out u1 (HBx.out.trans (K1.mono HBx.out.size))).mono ?_)
      rintro e u2 ⟨⟨ei, eg, eA, en, ec, el⟩, rfl, hat2, hnr2, hed2, hb2⟩
      have K2 := K1.trans (hb2.mono K1.size)
      refine hK.out _ _ (fun _ => K2) ?_
      simp only [Bd.v, Bd.vals]
      refine tkW 10 (v := ?tv10_9) K2 rfl (by kernel_rfl) ?tq10_9 (by kernel_rfl) (fun z5 hS => ?ty10_9) ?_
      case ty10_9 => go_simp; rfl
      case tq10_9 => exact fun _ _ _ h => h
      have HBu := Lib.hid (HBx.out.trans (K2.mono HBx.out.size))
      have hz5 := HBx.out.size
      have hz9 := K0.size
      have HQ := Lib.hid (show Rg.At u2 (fun x => wr.heap.size ≤ x ∧ x < u2.heap.size) (⟨ai, ag, aA, an, ac, al⟩, ⟨ei, eg, eA, en, ec, el⟩) from
        ⟨hat1.keep (fun x hx => ⟨⟨by have := hx.1; omega, by have := hx.2; have := hb2.size; omega⟩, hb2.block x hx.2⟩), hat2.keep (fun x hx => ⟨⟨by have := hx.1; have := hb1.size; omega, hx.2⟩, rfl⟩)⟩)
      have HRw := Lib.hid (HI.out.row.fr HBu.out)
      have HQa := Lib.hid (HI.out.row.apart (by have := HGz.out; omega) (Nat.le_refl _) HQ.out)
      have HV6 := Lib.hid (show VBox u2 B (some ⟨R, 0, none⟩) n1 c1 from (HBu.out.block B HI.out.box.lt).trans HI.out.box)
      have HEd := Lib.hid (show edsR ((⟨ai, ag, aA, an, ac, al⟩, ⟨ei, eg, eA, en, ec, el⟩) : Rg) = (mulE z (edsR ((⟨p1i, p1g, p1A, p1n, p1c, p1l⟩, ⟨p2i, p2g, p2A, p2n, p2c, p2l⟩) : Rg)).1, mulE z (edsR ((⟨p1i, p1g, p1A, p1n, p1c, p1l⟩, ⟨p2i, p2g, p2A, p2n, p2c, p2l⟩) : Rg)).2) from by unfold edsR; rw [hed1, hed2])
      have HNr := Lib.hid (And.intro hnr1 hnr2)
      have HPut := Lib.hid (RRow.put6 HRw.out (fun b hb => hb.2) HPr.out HQa.out)
      have fz := RRow.frozen HRw.out
      have fz0 := fz (k * 6)
      have fz1 := fz (k * 6 + 1)
      have fz2 := fz (k * 6 + 2)
      have fz3 := fz (k * 6 + 3)
      have fz4 := fz (k * 6 + 4)
      have fz5 := fz (k * 6 + 5)
      obtain ⟨c0, c1', c2, c3, c4, c5⟩ := HRw.out.cells_at HPr.out
      simp only at c0 c1' c2 c3 c4 c5
      clear K1 hb1 hb2 hat1 hat2 hnr1 hnr2 hed1 hed2 K0 hs0 HTm1 HTm2 HKa HKb HLw fz
      refine wpAnyW_one (i := 11) (by kernel_rfl) rfl (fun K hK => ?_)
      go_simp
      refine hK.out _ _ (fun _ => K2) ?_
      refine wpAnyW_one (i := 12) (by kernel_rfl) rfl (fun K hK => ?_)
      go_simp
      refine hK.out _ _ (fun h => absurd h (by simp)) ?_
      refine wpAnyW_done (by kernel_rfl) ?_ _
      have hz2 := HBu.out.size
      have HG6 := Lib.hid HPut.out.2
      have HR6 := Lib.hid (HPut.out.1)
      clear HPut HQa HRw fz0 fz1 fz2 fz3 fz4 fz5 c0 c1' c2 c3 c4 c5 K2 HV5 HX
      simp only at HR6 HG6
      generalize ((((((u2.setCell ⟨R, k * 6, none⟩ (.int .i64 ai)).setCell ⟨R, k * 6 + 1, none⟩ (.bool ag)).setCell ⟨R, k * 6 + 2, none⟩ (.slice aA an ac)).setCell ⟨R, k * 6 + 3, none⟩ (.int .i64 ei)).setCell ⟨R, k * 6 + 4, none⟩ (.bool eg)).setCell ⟨R, k * 6 + 5, none⟩ (.slice eA en ec)) = u6 at *
      have hz6 := HG6.out.size
      have HRow := Lib.hid (HR6.out.wide (Q := Fr (B + 4) u6) (fun b hb => ⟨hb.1, by have := hb.2; omega⟩))
      have HBl := Lib.hid (show Below B w u6 from (HI.out.bel.trans (HBu.out.mono (by have := HI.out.bel.size; have := HB.out; omega))).grown HG6.out (by have := HI.out.bel.size; have := HB.out; omega) (fun j e => by injection e with e; omega))
      have HVx := Lib.hid (show VBox u6 B (some ⟨R, 0, none⟩) n1 c1 from (HG6.out.block B HV6.out.lt (fun e => by injection e with e; omega)).trans HV6.out)
      have HIx := Lib.hid ((HI.out.int.below HBu.out).gro HG6.out (by omega))
      have hbG : ∀ b, b < wr.heap.size → b ≠ R → u6.heap[b]? = wr.heap[b]? := fun b h1 h2 => (HG6.out.block b (by omega) (fun e => by injection e with e; exact h2 e)).trans (HBu.out.block b h1)
      have HSx := Lib.hid (show u6.cell? ⟨G, 0, none⟩ = some (.int .i64 sg) from (World.cell?_of_block (a := ⟨G, 0, none⟩) (hbG G (by omega) (by have := HRG.out; omega))).trans HI.out.sgn)
      have HBd := Lib.hid (show u6.cell? ⟨G + 1, 0, none⟩ = some (.int .i64 0) from (World.cell?_of_block (a := ⟨G + 1, 0, none⟩) (hbG (G + 1) (by omega) (by have := HRG.out; omega))).trans HI.out.bad)
      have hlr := HI.out.row.len
      have hkr : k < rs.length := by omega
      have HGq := Lib.hid (show Gd ((⟨ai, ag, aA, an, ac, al⟩, ⟨ei, eg, eA, en, ec, el⟩) : Rg) ∧ Gd ((⟨ei, eg, eA, en, ec, el⟩, ⟨ai, ag, aA, an, ac, al⟩) : Rg) from by
        have hb := HNf.out.2.1 _ (List.mem_map.2 ⟨_, List.mem_of_getElem? HPq.out, rfl⟩)
        have e1 : Bd.ed ⟨ai, ag, aA, an, ac, al⟩ = _ := congrArg Prod.fst HEd.out
        have e2 : Bd.ed ⟨ei, eg, eA, en, ec, el⟩ = _ := congrArg Prod.snd HEd.out
        have s1 : szE (Bd.ed ⟨ai, ag, aA, an, ac, al⟩) ≤ 33554432 := by
          rw [e1]
          refine Nat.le_trans (szE_mul HL.out.dig HL.out.len HV.out) ?_
          have := hb.1; have := HKM.out.2; omega
        have s2 : szE (Bd.ed ⟨ei, eg, eA, en, ec, el⟩) ≤ 33554432 := by
          rw [e2]
          refine Nat.le_trans (szE_mul HL.out.dig HL.out.len HV.out) ?_
          have := hb.2; have := HKM.out.2; omega
        exact ⟨Gd.mk' HQ.out HNr.out.1 HNr.out.2 s1 s2, Gd.mk' ⟨HQ.out.b, HQ.out.a⟩ HNr.out.2 HNr.out.1 s2 s1⟩)
      have hsx := HSx.out
      have hGl : G < u6.heap.size := by omega
      clear hbG HV6 HBu
      rcases HZ.out with ⟨hzp, hsg1⟩ | ⟨hzn, hsg1⟩
      · subst hsg1
        go_wp2_with fail
        go_roundw
        case rel =>
          refine ⟨k + 1, rs.set k ((⟨ai, ag, aA, an, ac, al⟩, ⟨ei, eg, eA, en, ec, el⟩) : Rg), by omega, by go_num, Lib.hid ⟨HBl.out, HVx.out, HIx.out, hsx, HBd.out, by omega, HRow.out, HI.out.blk, fun q hq => ?_, ?_, ?_⟩⟩
          · rcases List.mem_or_eq_of_mem_set hq with h1 | h1
            · exact HI.out.gd q h1
            · rw [h1]; exact HGq.out.1
          · exact eds_step HI.out.eds HPq.out (by rw [HEd.out]; unfold scR; rw [if_pos hzp])
          · exact sc_drop HI.out.same
        case measure => simp [intOf]; omega
      · subst hsg1
        obtain ⟨vx, _⟩ := HVx.out.cell
        go_upto_region 16 with fail
        have hkl : (rs.set k ((⟨ai, ag, aA, an, ac, al⟩, ⟨ei, eg, eA, en, ec, el⟩) : Rg))[k]? = some ((⟨ai, ag, aA, an, ac, al⟩, ⟨ei, eg, eA, en, ec, el⟩) : Rg) := by rw [List.getElem?_set_self hkr]
        have HKl := Lib.hid hkl
        refine wp_region_T 19 (by kernel_rfl) (fun z9 K0 hs0 => ?_)
        have K7 : True := trivial
        refine tkW 3 (v := ?tv3_10) K7 rfl (by kernel_rfl) ?tq3_10 (by kernel_rfl) (fun z5 hS => ?ty3_10) ?_
        case ty3_10 => go_simp; rfl
        case tq3_10 => exact fun _ _ _ h => h
        refine tkW 10 (v := ?tv10_11) K7 rfl (by kernel_rfl) ?tq10_11 (by kernel_rfl) (fun z5 hS => ?ty10_11) ?_
        case ty10_11 => go_simp; rfl
        case tq10_11 => exact fun _ _ _ h => h
        refine wpAnyW_turn (S := fun z => Below u6.heap.size u6 z) 12 ?_
        refine tkW 9 (v := ?tv9_12) K0 rfl (by kernel_rfl) ?tq9_12 (by kernel_rfl) (fun z5 hS => ?ty9_12) ?_
        case ty9_12 => have q0 := (VBox.cell ((hS.block B HVx.out.lt).trans HVx.out)).1; go_simp; rfl
        case tq9_12 => exact fun _ _ _ h => h
        refine tkW 11 (v := ?tv11_13) K0 rfl (by kernel_rfl) ?tq11_13 (by kernel_rfl) (fun z5 hS => ?ty11_13) ?_
        case ty11_13 => go_simp; rfl
        case tq11_13 => exact fun _ _ _ h => h
        refine wpAnyW_sooner (st' := 16) (k := 13) (by kernel_rfl) (by kernel_rfl) _ _ _ _ (by kernel_rfl) (by kernel_rfl) ?_
        refine tkW 0 (v := ?tv0_14) K0 rfl (by kernel_rfl) ?tq0_14 (by kernel_rfl) (fun z5 hS => ?ty0_14) ?_
        case ty0_14 => have q0 := (VBox.cell ((hS.block B HVx.out.lt).trans HVx.out)).1; go_simp; rfl
        case tq0_14 => exact fun _ _ _ h => h
        refine tkW 1 (v := ?tv1_15) K0 rfl (by kernel_rfl) ?tq1_15 (by kernel_rfl) (fun z5 hS => ?ty1_15) ?_
        case ty1_15 => go_simp; rfl
        case tq1_15 => exact fun _ _ _ h => h
        refine tkW 2 (v := ?tv2_16) K0 rfl (by kernel_rfl) ?tq2_16 (by kernel_rfl) (fun z5 hS => ?ty2_16) ?_
        case ty2_16 => have q0 := (VBox.cell ((hS.block B HVx.out.lt).trans HVx.out)).1; go_simp; rfl
        case tq2_16 => exact fun _ _ _ h => h
        refine tkW 4 (v := ?tv4_17) K0 rfl (by kernel_rfl) ?tq4_17 (by kernel_rfl) (fun z5 hS => ?ty4_17) ?_
        case ty4_17 => have q0 := (VBox.cell ((hS.block B HVx.out.lt).trans HVx.out)).1; go_simp; rfl
        case tq4_17 => exact fun _ _ _ h => h
        refine tkW 5 (v := ?tv5_18) K0 rfl (by kernel_rfl) ?tq5_18 (by kernel_rfl) (fun z5 hS => ?ty5_18) ?_
        case ty5_18 => go_simp; rfl
        case tq5_18 => exact fun _ _ _ h => h
        refine tkW 6 (v := ?tv6_19) K0 rfl (by kernel_rfl) ?tq6_19 (by kernel_rfl) (fun z5 hS => ?ty6_19) ?_
        case ty6_19 => go_simp; rfl
        case tq6_19 => exact fun _ _ _ h => h
        refine tkW 7 (v := ?tv7_20) K0 rfl (by kernel_rfl) ?tq7_20 (by kernel_rfl) (fun z5 hS => ?ty7_20) ?_
        case ty7_20 => go_simp; rfl
        case tq7_20 => exact fun _ _ _ h => h
        refine tkW 8 (v := ?tv8_21) K0 rfl (by kernel_rfl) ?tq8_21 (by kernel_rfl) (fun z5 hS => ?ty8_21) ?_
        case ty8_21 => have q0 := (RRow.cells_at (RRow.fr HRow.out hS) HKl.out); simp only at q0; obtain ⟨q0, q1, q2, q3, q4, q5⟩ := q0; go_simp; rfl
        case tq8_21 => exact fun _ _ _ h => h
        refine tkW 12 (v := ?tv12_22) K0 rfl (by kernel_rfl) ?tq12_22 (by kernel_rfl) (fun z5 hS => ?ty12_22) ?_
        case ty12_22 => go_simp; rfl
        case tq12_22 => exact fun _ _ _ h => h
        refine tkW 13 (v := ?tv13_23) K0 rfl (by kernel_rfl) ?tq13_23 (by kernel_rfl) (fun z5 hS => ?ty13_23) ?_
        case ty13_23 => have q0 := (RRow.cells_at (RRow.fr HRow.out hS) HKl.out); simp only at q0; obtain ⟨q0, q1, q2, q3, q4, q5⟩ := q0; go_simp; rfl
        case tq13_23 => exact fun _ _ _ h => h
        refine tkW 14 (v := ?tv14_24) K0 rfl (by kernel_rfl) ?tq14_24 (by kernel_rfl) (fun z5 hS => ?ty14_24) ?_
        case ty14_24 => go_simp; rfl
        case tq14_24 => exact fun _ _ _ h => h
        refine tkW 15 (v := ?tv15_25) K0 rfl (by kernel_rfl) ?tq15_25 (by kernel_rfl) (fun z5 hS => ?ty15_25) ?_
        case ty15_25 => go_simp; rfl
        case tq15_25 => exact fun _ _ _ h => h
        have HQw := Lib.hid (HRow.out.fr K0)
        have fz := RRow.frozen HQw.out
        have fz0 := fz (k * 6)
        have fz1 := fz (k * 6 + 1)
        have fz2 := fz (k * 6 + 2)
        have fz3 := fz (k * 6 + 3)
        have fz4 := fz (k * 6 + 4)
        have fz5 := fz (k * 6 + 5)
        obtain ⟨c0, c1', c2, c3, c4, c5⟩ := RRow.cells_at HQw.out HKl.out
        simp only at c0 c1' c2 c3 c4 c5
        have HKd := Lib.hid (HQw.out.kid _ (List.mem_of_getElem? HKl.out))
        have HPt := Lib.hid (RRow.put6 (q := ((⟨ei, eg, eA, en, ec, el⟩, ⟨ai, ag, aA, an, ac, al⟩) : Rg)) HQw.out (fun b hb => hb.2) HKl.out ⟨HKd.out.b, HKd.out.a⟩)
        have HZz := Lib.hid K0
        clear fz
        refine wpAnyW_one (i := 16) (by kernel_rfl) rfl (fun K hK => ?_)
        go_simp
        refine hK.out _ _ (fun h => absurd h (by simp)) ?_
        refine wpAnyW_one (i := 17) (by kernel_rfl) rfl (fun K hK => ?_)
        go_simp
        refine hK.out _ _ (fun h => absurd h (by simp)) ?_
        refine wpAnyW_one (i := 18) (by kernel_rfl) rfl (fun K hK => ?_)
        go_simp
        refine hK.out _ _ (fun h => absurd h (by simp)) ?_
        refine wpAnyW_one (i := 19) (by kernel_rfl) rfl (fun K hK => ?_)
        go_simp
        refine hK.out _ _ (fun h => absurd h (by simp)) ?_
        refine wpAnyW_done (by kernel_rfl) ?_ _
        clear fz0 fz1 fz2 fz3 fz4 fz5 c0 c1' c2 c3 c4 c5 hs0 K7 K0 HQw HKd
        have hGz : u6.heap.size ≤ z9.heap.size := HZz.out.size
        have HPu := Lib.hid (show RRow ((((((z9.setCell ⟨R, k * 6, none⟩ (.int .i64 ei)).setCell ⟨R, k * 6 + 1, none⟩ (.bool eg)).setCell ⟨R, k * 6 + 2, none⟩ (.slice eA en ec)).setCell ⟨R, k * 6 + 3, none⟩ (.int .i64 ai)).setCell ⟨R, k * 6 + 3 + 1, none⟩ (.bool ag)).setCell ⟨R, k * 6 + 3 + 2, none⟩ (.slice aA an ac)) (B + 4) (Fr (B + 4) z9) (some ⟨R, 0, none⟩) n1 c1 ((rs.set k ((⟨ai, ag, aA, an, ac, al⟩, ⟨ei, eg, eA, en, ec, el⟩) : Rg)).set k ((⟨ei, eg, eA, en, ec, el⟩, ⟨ai, ag, aA, an, ac, al⟩) : Rg)) ∧
          z9.grownBy ((((((z9.setCell ⟨R, k * 6, none⟩ (.int .i64 ei)).setCell ⟨R, k * 6 + 1, none⟩ (.bool eg)).setCell ⟨R, k * 6 + 2, none⟩ (.slice eA en ec)).setCell ⟨R, k * 6 + 3, none⟩ (.int .i64 ai)).setCell ⟨R, k * 6 + 3 + 1, none⟩ (.bool ag)).setCell ⟨R, k * 6 + 3 + 2, none⟩ (.slice aA an ac)) (some R) from HPt.out)
        clear HPt
        generalize (((((z9.setCell ⟨R, k * 6, none⟩ (.int .i64 ei)).setCell ⟨R, k * 6 + 1, none⟩ (.bool eg)).setCell ⟨R, k * 6 + 2, none⟩ (.slice eA en ec)).setCell ⟨R, k * 6 + 3, none⟩ (.int .i64 ai)).setCell ⟨R, k * 6 + 3 + 1, none⟩ (.bool ag)).setCell ⟨R, k * 6 + 3 + 2, none⟩ (.slice aA an ac) = u7 at *
        rw [List.set_set] at HPu
        have hz7 := HPu.out.2.size
        have hbG7 : ∀ b, b < u6.heap.size → b ≠ R → u7.heap[b]? = u6.heap[b]? := fun b h1 h2 => (HPu.out.2.block b (by omega) (fun e => by injection e with e; exact h2 e)).trans (HZz.out.block b h1)
        have hB7 : B + 4 ≤ G := HGz.out
        have hRg := HRG.out
        have HB7 := Lib.hid (show Below B w u7 from (HBl.out.trans (HZz.out.mono (by have := HBl.out.size; have := HB.out; omega))).grown HPu.out.2 (by have := HBl.out.size; have := HB.out; omega) (fun j e => by injection e with e; omega))
        have HV7 := Lib.hid (show VBox u7 B (some ⟨R, 0, none⟩) n1 c1 from (hbG7 B HVx.out.lt (by omega)).trans HVx.out)
        have HI7 := Lib.hid (show IBox u7 (B + 1) g (.slice A' n' c') from (hbG7 (B + 1) HIx.out.lt (by omega)).trans HIx.out)
        have HS7 := Lib.hid (show u7.cell? ⟨G, 0, none⟩ = some (.int .i64 (-1)) from (World.cell?_of_block (a := ⟨G, 0, none⟩) (hbG7 G (by omega) (by omega))).trans HSx.out)
        have HD7 := Lib.hid (show u7.cell? ⟨G + 1, 0, none⟩ = some (.int .i64 0) from (World.cell?_of_block (a := ⟨G + 1, 0, none⟩) (hbG7 (G + 1) (by omega) (by omega))).trans HBd.out)
        have HR7 := Lib.hid (HPu.out.1.wide (Q := Fr (B + 4) u7) (fun b hb => ⟨hb.1, by have := hb.2; omega⟩))
        clear hbG7
        go_wp2_with fail
        go_roundw
        case rel =>
          refine ⟨k + 1, rs.set k ((⟨ei, eg, eA, en, ec, el⟩, ⟨ai, ag, aA, an, ac, al⟩) : Rg), by omega, by go_num, Lib.hid ⟨HB7.out, HV7.out, HI7.out, HS7.out, HD7.out, by omega, HR7.out, HI.out.blk, fun q hq => ?_, ?_, ?_⟩⟩
          · rcases List.mem_or_eq_of_mem_set hq with h1 | h1
            · exact HI.out.gd q h1
            · rw [h1]; exact HGq.out.2
          · refine eds_step HI.out.eds HPq.out ?_
            have e1 : Bd.ed ⟨ai, ag, aA, an, ac, al⟩ = _ := congrArg Prod.fst HEd.out
            have e2 : Bd.ed ⟨ei, eg, eA, en, ec, el⟩ = _ := congrArg Prod.snd HEd.out
            unfold scR
            rw [if_neg (by omega)]
            exact Prod.ext e2 e1
          · exact sc_drop HI.out.same
        case measure => simp [intOf]; omega

    · have hkk : n1 = k := by omega
      subst hkk
      have hlr := HI.out.row.len
      have hki : ¬ ((n1 : Int) < (n1 : Int)) := by omega
      have HEe := Lib.hid (show rs.map edsR = (qs.map edsR).map (scR z) from by
        have h1 := HI.out.eds
        rw [List.take_of_length_le (Nat.le_of_eq HLq.out.1), List.drop_of_length_le (Nat.le_of_eq HLq.out.1)] at h1
        rw [h1]
        simp)
      have HBn := Lib.hid (show Bnd (M + n') (rs.map edsR) from by
        rw [HEe.out]
        intro r hr
        obtain ⟨r0, h1, rfl⟩ := List.mem_map.1 hr
        have h2 := HNf.out.2.1 r0 h1
        have h3 := szE_mul (e := r0.1) HL.out.dig HL.out.len HV.out
        have h4 := szE_mul (e := r0.2) HL.out.dig HL.out.len HV.out
        unfold scR
        split
        · exact ⟨by simp only; omega, by simp only; omega⟩
        · exact ⟨by simp only; omega, by simp only; omega⟩)
      have HGi := Lib.hid (give_ok (w := wr) (HI.out.row.set (fun b h1 h2 => ⟨h1, h2⟩)) (fun b hb => hb.2) (fun q hq => ⟨fun _ => (HI.out.gd q hq).2.1, fun _ => (HI.out.gd q hq).2.2⟩) hn9 HBn.out HKM.out.2)
      obtain ⟨v0, _⟩ := HI.out.box.cell
      have t0 := HI.out.bad
      go_wp2_with (go_at_call 52; (with_reducible refine HGi.out.mono ?_); rintro e w3 ⟨A4, n4, c4, q4, w4, rfl, hres, hb3⟩; have HR := Lib.hid hres; have HB3 := Lib.hid hb3; clear hres hb3)
      obtain ⟨r1, r2, r3, r4, r5, r6, r7⟩ := HR.out
      have s1 := HI.out.bel.size
      have s3 := r7.size
      have hlt := HI.out.lt
      have hGz := HGz.out
      have hBB := HB.out
      have key : (∃ A m c qs N, NF N ∧ (∀ z, Hf.mem z N ↔ Hf.mem z (ps.map edsR)) ∧ Ending.returned (.tuple #[.slice A4 n4 c4, .int .i64 0]) = .returned (.tuple #[.slice A m c, .int .i64 0]) ∧ SOut w3 B A m c qs K (M + n') ∧ (∀ k, Hf.mem k (qs.map edsR) ↔ Hf.mem k (N.map (scR z))) ∧ Below B w w3) :=
        ⟨A4, n4, c4, q4, qs.map edsR, HNf.out.1, HNf.out.2.2, rfl, ((⟨r1, r2, r3, by have := HLq.out.2.1; omega, Bnd.ends HBn.out r5⟩ : SOut w4 wr.heap.size A4 n4 c4 q4 K (M + n')).below HB3.out).lower (by omega), fun k => by rw [r4 k, HEe.out], (HI.out.bel.trans (r7.mono (by omega))).trans (HB3.out.mono (by omega))⟩
      first
        | (go_ret; exact key)
        | exact bodyPost_ret (v := .tuple #[.slice A4 n4 c4, .int .i64 0]) (by simp [results, Tryz.results22, go_sem]) rfl key
end Go.Proofs.YtpikjceodmepiaaGreatDoor

