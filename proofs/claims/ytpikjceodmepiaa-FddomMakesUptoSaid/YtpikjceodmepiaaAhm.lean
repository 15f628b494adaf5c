import Derived.Test.YtpikjceodmepiaaAgm
set_option linter.unusedVariables false
set_option linter.unusedSimpArgs false
namespace Go.Proofs.Ytpikjceodmepiaa
open Go.RowKit Hb Hf
set_option linter.unusedVariables false
set_option linter.unusedSimpArgs false
attribute [local go_sem ↓] Go.wp_at_zero Go.wp_at_succ
/-! ### the reference: Built -/
theorem tnR_eq (r : R) : numL r.1 ++ (numL r.2).map (· + 1) = tnR r := by
  obtain ⟨a, b⟩ := r
  cases a <;> cases b <;> rfl
theorem rawT_eq (L : List R) : rawT L = tnL L := by
  unfold rawT tnL
  congr 1
  funext r
  exact tnR_eq r
theorem low_eq (L : List R) : L.any lowR = Hf.lowB L := by
  unfold Hf.lowB
  congr 1
  funext r
  obtain ⟨a, b⟩ := r
  cases a <;> cases b <;> simp [lowR, Hf.lowR, infZ]
theorem sweep_in {f : Int → Bool} {e : Ed} {x : Int} {t : List Int} (h : f x = true) : sweep f (some e) (x :: t) = sweep f (some e) t := if_pos h
theorem sweep_open {f : Int → Bool} {x : Int} {t : List Int} (h : f x = true) : sweep f none (x :: t) = sweep f (some (.num x)) t := if_pos h
theorem sweep_out {f : Int → Bool} {x : Int} {t : List Int} (h : f x = false) : sweep f none (x :: t) = sweep f none t := if_neg (by rw [h]; exact Bool.false_ne_true)
theorem sweep_shut {f : Int → Bool} {e : Ed} {x : Int} {t : List Int} (h : f x = false) : sweep f (some e) (x :: t) = (e, .num (x - 1)) :: sweep f none t := if_neg (by rw [h]; exact Bool.false_ne_true)
def BuiltPostB (B : Nat) (w : World) (L : List R) (e : Ending) (w' : World) : Prop :=
  ∃ A' n' c' qs, e = .returned (.slice A' n' c') ∧ SRow w' B (fun b => b < w'.heap.size) A' n' c' qs ∧ NF (qs.map edsS) ∧ (∀ z, Hf.mem z (qs.map edsS) ↔ Hf.mem z L) ∧ Below B w w'
def BuiltPost (w : World) (L : List R) (e : Ending) (w' : World) : Prop := BuiltPostB w.heap.size w L e w'
/-- a sweep, behind i of the places: what is out, what is open -/
structure BL (w1 : World) (C X : Nat) (F : Int → Bool) (T : List Int) (N : List R) (i : Nat) (op : Bool) (A : Option Addr) (m c : Nat) (qs : List Rg) (d : Bd) (e : Ed) (wr : World) : Prop where
  bel : Below C w1 wr
  le : C + 1 ≤ wr.heap.size
  box : NBox wr X d
  lo : Sb wr (fun b => b < C) e d
  row : SRow wr (C + 1) (Or (fun b => b < C) (C + 1) wr) A m c qs
  len : m ≤ i
  val : N = qs.map edsS ++ sweep F (if op = true then some e else none) (T.drop i)
theorem BL.below {w1 wr w' : World} {C X i m c : Nat} {F : Int → Bool} {T : List Int} {N : List R} {op : Bool} {A : Option Addr} {qs : List Rg} {d : Bd} {e : Ed} (h : BL w1 C X F T N i op A m c qs d e wr) (hb : Below wr.heap.size wr w') : BL w1 C X F T N i op A m c qs d e w' :=
  ⟨h.bel.trans (hb.mono (by have := h.le; omega)), Nat.le_trans h.le hb.size, h.box.below hb, h.lo.keep (fun b hb2 => ⟨hb2, hb.block b (by have := h.le; omega)⟩), h.row.up h.le (fun _ h => by omega) hb, h.len, h.val⟩
theorem SRow.gro {w w' : World} {C n c : Nat} {A : Option Addr} {qs : List Rg} (h : SRow w (C + 1) (Or (fun b => b < C) (C + 1) w) A n c qs) (hC : C + 1 ≤ w.heap.size) (hg : w.grownBy w' (some C)) : SRow w' (C + 1) (Or (fun b => b < C) (C + 1) w') A n c qs :=
  (h.keepP (fun b h1 h2 => hg.block b h2 (fun e => by injection e with e; omega)) (fun b hb => hg.block b (by
    rcases hb with h1 | h1
    · have h2 : b < C := h1; omega
    · exact h1.2) (fun e => by
    injection e with e
    rcases hb with h1 | h1
    · have h2 : b < C := h1; omega
    · have := h1.1; omega))).wide (fun b hb => hb.imp id (fun k => ⟨k.1, Nat.lt_of_lt_of_le k.2 hg.size⟩))
theorem BL.same {w1 wr : World} {C X i m c : Nat} {F : Int → Bool} {T : List Int} {N : List R} {op : Bool} {A : Option Addr} {qs : List Rg} {d : Bd} {e : Ed} (h : BL w1 C X F T N i op A m c qs d e wr) (hs : sweep F (if op = true then some e else none) (T.drop i) = sweep F (if op = true then some e else none) (T.drop (i + 1))) : BL w1 C X F T N (i + 1) op A m c qs d e wr :=
  ⟨h.bel, h.le, h.box, h.lo, h.row, by have := h.len; omega, by rw [← hs]; exact h.val⟩
theorem SRow.ne_nbox {w : World} {B n c X : Nat} {P : Nat → Prop} {A : Option Addr} {ps : List Rg} {p : Bd} (h : SRow w B P A n c ps) (hx : NBox w X p) : (Value.slice A n c).ownBlock ≠ some X := by
  rcases h.own.2 with ⟨h1, _⟩ | ⟨g1, cap, cur, h1, h2, h3, h4⟩
  · injection h1 with a b c; subst a; simp [Value.ownBlock]
  · intro e
    injection h1 with a b c
    subst a
    have e2 : g1 = X := by
      simp only [Value.ownBlock] at e
      injection e
    subst e2
    unfold NBox at hx
    rw [hx] at h3
    injection h3 with h3
    injection h3 with _ h5 _
    revert h5
    decide
set_option maxRecDepth 100000 in
set_option maxHeartbeats 8000000 in
theorem built0_any {w : World} {P : Nat → Prop} {A : Option Addr} {n c M : Nat} {ps : List Rg} (h : RefS w P A n c ps) (hP : ∀ b, P b → b < w.heap.size) (hM : Bn2 M (ps.map edsS)) (hM9 : M ≤ 999999990) (hn : n ≤ 1000000000) :
    Calls Try.prog 62 #[.int .i64 0, .slice A n c, .slice none 0 0] w (BuiltPost w (ps.map edsS)) := by
  have HBa := Lib.hid (show Below w.heap.size w (w.alloc (.cells #[.slice A n c, .slice none 0 0] 28)) from (Below.refl _ _).alloc (Nat.le_refl _) _)
  have hnew := heap_alloc_new w (.cells #[.slice A n c, .slice none 0 0] 28)
  have c0 : (w.alloc (.cells #[.slice A n c, .slice none 0 0] 28)).cell? ⟨w.heap.size, 0, none⟩ = some (.slice A n c) := by rw [cell_of_row _ _ 0 _ _ (0, 0) hnew]; rfl
  have c1 : (w.alloc (.cells #[.slice A n c, .slice none 0 0] 28)).cell? ⟨w.heap.size, 1, none⟩ = some (.slice none 0 0) := by rw [cell_of_row _ _ 1 _ _ (0, 0) hnew]; rfl
  have HT := Lib.hid (turns_any (cG := 2) (h.keep (Q := fun b => b < w.heap.size) (fun b hb => ⟨hP b hb, HBa.out.block b (hP b hb)⟩)) (fun b hb => Nat.lt_of_lt_of_le hb HBa.out.size) c0 c1 (by simp) hM (by omega) hn)
  have HS := Lib.hid (h.keep (Q := fun b => b < w.heap.size) (w' := w) (fun b hb => ⟨hP b hb, rfl⟩))
  have HMn := Lib.hid (And.intro hM (And.intro hM9 hn))
  obtain ⟨L, hL⟩ : ∃ L, ps.map edsS = L := ⟨_, rfl⟩
  have HL := Lib.hid hL
  have HLl := Lib.hid (show L.length = n by rw [← hL, List.length_map]; exact h.row.len)
  obtain ⟨B, hB⟩ : ∃ B, w.heap.size = B := ⟨_, rfl⟩
  have HB := Lib.hid hB
  have hz1 : (w.alloc (.cells #[.slice A n c, .slice none 0 0] 28)).heap.size = w.heap.size + 1 := by simp
  obtain ⟨om, hom⟩ : ∃ om : Int, om = -1 := ⟨-1, rfl⟩
  have HOm := Lib.hid hom
  have HFm := Lib.hid (fun w1 => show Calls Try.prog 82 #[.int .i64 (-1)] w1 (PostB w1 om) from by rw [hom]; exact Small_any (-1) (by omega) w1)
  have HSN := Lib.hid (fun (y : World) => RefS.nil y (fun b => b < B))
  rw [hL] at HT HMn ⊢
  unfold BuiltPost
  rw [hB] at HBa hz1 HS
  rw [hB]
  have HZ1 := Lib.hid hz1
  clear h hP hM hM9 hn hL hnew c0 c1 hz1 hom
  go_enter Try.func62, Try.ntmps62
  go_wp2_with fail
  rw [hB] at HT
  clear hB
  (with_reducible refine HT.out.mono ?_)
  rintro e w2 ⟨A1, m, c1, bs, he, hr, hasc, hmem, hlen, hsz, hb2⟩
  subst he
  have HBt := Lib.hid (show Below B w w2 from HBa.out.trans (hb2.mono (by have := HZ1.out; omega)))
  have HT2 := Lib.hid (And.intro hr (And.intro hasc (And.intro hmem (And.intro hlen hsz))))
  have HSz := Lib.hid (show B + 1 ≤ w2.heap.size by have := hb2.size; have := HZ1.out; omega)
  clear hr hasc hmem hlen hsz hb2 HT HBa HZ1
  generalize (w.alloc (.cells #[.slice A n c, .slice none 0 0] 28)) = w1 at *
  obtain ⟨C, hC⟩ : ∃ C, w2.heap.size = C := ⟨_, rfl⟩
  have HC := Lib.hid hC
  have HX := Lib.hid (NBox.new w2 ⟨0, false, none, 0, 0, []⟩)
  have HBx := Lib.hid (show Below C w2 (w2.alloc (.cells (Bd.vals ⟨0, false, none, 0, 0, []⟩).toArray 65)) from (Below.refl _ _).alloc (by omega) _)
  have HSS := Lib.hid (fun (y : World) (hy : Below C w2 y) => HS.out.keep (w' := y) (Q := fun b => b < B) (fun b hb => ⟨hb, (hy.block b (by have := HSz.out; omega)).trans (HBt.out.block b hb)⟩))
  have HLow := Lib.hid (fun (y : World) (hy : Below C w2 y) => rLow_any (HSS.out y hy) (fun b hb => by have := HSz.out; have := hy.size; omega))
  have HLow0 := Lib.hid (fun (y : World) (hy : Below C w2 y) => rLow_any (HSN.out y) (fun b hb => by have := HSz.out; have := hy.size; omega))
  rw [HL.out] at HLow
  obtain ⟨lv, hlv⟩ : ∃ v, L.any lowR = v := ⟨_, rfl⟩
  rw [hlv] at HLow
  have HLv := Lib.hid hlv
  simp only [Bd.vals] at HX HBx
  rw [hC] at HX
  clear hC hlv
  go_wp2_with fail
  (with_reducible refine (HLow.out _ HBx.out).mono ?_)
  rintro e w3 ⟨he, hb3⟩
  subst he
  have HB3 := Lib.hid (HBx.out.trans (hb3.mono (by have := HBx.out.size; have := HC.out; omega)))
  have HX3 := Lib.hid (HX.out.below hb3)
  clear hb3
  go_wp2_with fail
  (with_reducible refine (HLow0.out _ HB3.out).mono ?_)
  rintro e w4 ⟨he, hb4⟩
  subst he
  have HB4 := Lib.hid (HB3.out.trans (hb4.mono (by have := HB3.out.size; have := HC.out; omega)))
  have HX4 := Lib.hid (HX3.out.below hb4)
  clear hb4 HB3 HX3 HX HBx
  go_wp2_with fail
  (with_reducible refine (rwanted0 lv false _).mono ?_)
  rintro e w5 ⟨he, hb5⟩
  subst he
  have HB5 := Lib.hid (HB4.out.trans (hb5.mono (by have := HB4.out.size; have := HC.out; omega)))
  have HX5 := Lib.hid (HX4.out.below hb5)
  clear hb5 HB4 HX4
  rw [Bool.or_false]
  rw [HC.out]
  obtain ⟨T, hT⟩ : ∃ T, bs.map Bg.z = T := ⟨_, rfl⟩
  obtain ⟨F, hF⟩ : ∃ F : Int → Bool, (fun z => memB z L || memB z []) = F := ⟨_, rfl⟩
  obtain ⟨N, hN⟩ : ∃ N, sweep F (if lv = true then some .lo else none) T = N := ⟨_, rfl⟩
  have HNs := Lib.hid (show NF N ∧ ∀ z, Hf.mem z N ↔ Hf.mem z L from by
    have h1 := built_spec (w := fun a b => a || b) (a := L) (b := []) (t := T) (hT ▸ HT2.out.2.1) (fun x hx => by
      rw [rawT_eq] at hx
      rw [← hT]
      exact (HT2.out.2.2.1 x).2 hx) (by simp [rawT])
    have h2 : builtP (fun a b => a || b) L [] T = N := by
      rw [← hN, ← hF]
      unfold builtP
      rw [← HLv.out, low_eq]
      show sweep (fun z => memB z L || memB z []) (if (Hf.lowB L || false) = true then some .lo else none) T = _
      rw [Bool.or_false]
    rw [h2] at h1
    refine ⟨h1.1, fun z => (h1.2 z).trans ?_⟩
    rw [show memB z [] = false from rfl, Bool.or_false, memB_iff])
  have HFz := Lib.hid (show ∀ z, F z = memB z L from fun z => by rw [← hF]; show (memB z L || memB z []) = _; rw [show memB z [] = false from rfl, Bool.or_false])
  have HTb := Lib.hid hT
  have HTl := Lib.hid (show T.length = m by rw [← hT, List.length_map]; exact HT2.out.1.len)
  have HNn := Lib.hid hN
  have hcm := HT2.out.1.cap
  have hmx := hcm.2
  unfold maxLen at hmx
  have HMx := Lib.hid (show m + 1 ≤ maxRg by have := HT2.out.2.2.2.1; have := HLl.out; have := HMn.out.2.2; unfold maxRg; omega)
  obtain ⟨f0, f1, f2⟩ := HX5.out.frozens
  obtain ⟨y0, y1, y2⟩ := HX5.out.cells
  simp only at y0 y1 y2
  have hxl := HX5.out.lt
  have HSz5 := Lib.hid (show C ≤ w5.heap.size by have := HB5.out.size; have := HC.out; omega)
  clear hT hF hN
  cases lv
  · have HB6 := Lib.hid HB5.out
    have HBL0 := Lib.hid (show BL w2 C C F T N 0 false none 0 0 [] ⟨0, false, none, 0, 0, []⟩ (.num 0) w5 from ⟨HB6.out, hxl, HX5.out, ⟨LimB.nil _ _ none (c := 0) (by simp [maxLen]), ⟨none, 0, by show _ = Bd.mk 0 (decide ((0 : Int) < 0)) none (digs 2 (0 : Int).natAbs).length 0 (digs 2 (0 : Int).natAbs); rw [show (0 : Int).natAbs = 0 from rfl, digs_zero]; rfl⟩, Nat.zero_le _⟩, SRow.nil _ _ _, Nat.le_refl _, by rw [← HNn.out]; rfl⟩)
    clear f0 f1 f2 y0 y1 y2 hxl HX5
    go_wp2_with fail
    go_loopw [8, 9, 12] (fun vo vp vi wr => ∃ i A' m' c' qs op d e, i ≤ m ∧ vi = .int .i64 (i : Nat) ∧ vp = .bool op ∧ vo = .slice A' m' c' ∧ Hid (BL w2 C C F T N i op A' m' c' qs d e wr)) (fun _ _ vi _ => m - (intOf vi).toNat)
    case atStart => exact ⟨0, none, 0, 0, [], false, _, _, Nat.zero_le _, rfl, rfl, rfl, HBL0⟩
    case round =>
      obtain ⟨i, A3, n3, c3, qs, op, ⟨di, dg, dA, dn, dc, dl⟩, e0, hi, rfl, rfl, rfl, HI⟩ := hrel
      clear HBL0
      by_cases him : i < m
      · obtain ⟨q, hq⟩ : ∃ q, bs[i]? = some q := ⟨bs[i]'(by have := HT2.out.1.len; omega), by simp⟩
        obtain ⟨gt, hgt, hgt1, hgt2, _⟩ := HT2.out.1.some_ (by omega)
        subst hgt
        obtain ⟨l0, l1⟩ := HT2.out.1.cells_at hq
        have hgtC : gt < C := by have := HC.out; omega
        have HLc := Lib.hid (fun (z : World) (hz : Below C w2 z) (j : Nat) => (World.cell?_of_block (a := ⟨gt, j, none⟩) (hz.block gt hgtC)))
        have HKq := Lib.hid (HT2.out.1.kid q (List.mem_of_getElem? hq))
        have HSq := Lib.hid (HT2.out.2.2.2.2 q (List.mem_of_getElem? hq))
        have hTi : T[i]? = some q.z := by rw [← HTb.out, List.getElem?_map, hq]; rfl
        have HDr := Lib.hid (show T.drop i = q.z :: T.drop (i + 1) by
          rw [List.drop_eq_getElem_cons (by have := HTl.out; omega), (List.getElem?_eq_some_iff.1 hTi).2])
        obtain ⟨qz, qA, qc⟩ := q
        have HKs := Lib.hid (show LimB w2 (fun b => b < C) qA (digs 2 qz.natAbs).length qc (digs 2 qz.natAbs) from LimB.wide (show LimB w2 _ qA (digs 2 qz.natAbs).length qc (digs 2 qz.natAbs) from HKq.out) (fun b hb => by have := hb.1; have := HC.out; omega))
        have HLv := Lib.hid (And.intro l0 l1)
        have HSb := Lib.hid (fun (y : World) (hy : Below C w2 y) => show Sb y (fun b => b < C) (.num qz) (rb (.num qz) qA qc) from ⟨HKs.out.keep (fun b hb => ⟨hb, hy.block b hb⟩), ⟨_, _, rfl⟩, Nat.le_trans HSq.out (by have := HMn.out.2.1; omega)⟩)
        have HIn := Lib.hid (fun (y : World) (hy : Below C w2 y) => rIn_any (HSS.out y hy) (fun b hb => by have := HSz.out; have := hy.size; omega) (HSb.out y hy) (fun b hb => by have := hy.size; have := HC.out; omega))
        have HIn0 := Lib.hid (fun (y : World) (hy : Below C w2 y) => rIn_any (HSN.out y) (fun b hb => by have := HSz.out; have := hy.size; omega) (HSb.out y hy) (fun b hb => by have := hy.size; have := HC.out; omega))
        rw [HL.out] at HIn
        obtain ⟨x, hx⟩ : ∃ x, L.any (inB qz) = x := ⟨_, rfl⟩
        rw [hx] at HIn
        have HFx := Lib.hid (show F qz = x from (HFz.out qz).trans hx)
        have hii : (i : Int) < (m : Int) := by omega
        have hi0 : (0 : Int) ≤ (i : Int) := by omega
        have HMi := Lib.hid (show n3 + 1 ≤ maxRg by have := HI.out.len; have := HMx.out; omega)
        clear hq hTi hx l0 l1
        go_upto_region 12 with fail
        refine wp_region_H (by kernel_rfl) (fun z0 K0 hs0 => ?_)
        refine tkH 0 (v := ?tv0_1) K0 rfl (by kernel_rfl) ?tq0_1 (by kernel_rfl) (fun z5 hS => ?ty0_1) ?_
        case ty0_1 => go_simp; rfl
        case tq0_1 => exact fun _ _ _ h => h
        refine tkH 1 (v := ?tv1_2) K0 rfl (by kernel_rfl) ?tq1_2 (by kernel_rfl) (fun z5 hS => ?ty1_2) ?_
        case ty1_2 => go_simp; rfl
        case tq1_2 => exact fun _ _ _ h => h
        refine tkH 2 (v := ?tv2_3) K0 rfl (by kernel_rfl) ?tq2_3 (by kernel_rfl) (fun z5 hS => ?ty2_3) ?_
        case ty2_3 => go_simp; rfl
        case tq2_3 => exact fun _ _ _ h => h
        refine tkH 3 (v := ?tv3_4) K0 rfl (by kernel_rfl) ?tq3_4 (by kernel_rfl) (fun z5 hS => ?ty3_4) ?_
        case ty3_4 => go_simp; rfl
        case tq3_4 => exact fun _ _ _ h => h
        refine tkH 4 (v := ?tv4_5) K0 rfl (by kernel_rfl) ?tq4_5 (by kernel_rfl) (fun z5 hS => ?ty4_5) ?_
        case ty4_5 => go_simp; rfl
        case tq4_5 => exact fun _ _ _ h => h
        refine tkH 5 (v := ?tv5_6) K0 rfl (by kernel_rfl) ?tq5_6 (by kernel_rfl) (fun z5 hS => ?ty5_6) ?_
        case ty5_6 => have g0 := (HLc.out z5 (HI.out.bel.trans (hS.mono (by have := HI.out.le; omega))) (i * 2)).trans HLv.out.1; have g1 := (HLc.out z5 (HI.out.bel.trans (hS.mono (by have := HI.out.le; omega))) (i * 2 + 1)).trans HLv.out.2; (try simp only at g0 g1); go_simp; rfl
        case tq5_6 => exact fun _ _ _ h => h
        refine tkH 7 (v := ?tv7_7) K0 rfl (by kernel_rfl) ?tq7_7 (by kernel_rfl) (fun z5 hS => ?ty7_7) ?_
        case ty7_7 => go_simp; rfl
        case tq7_7 => exact fun _ _ _ h => h
        refine tkH 8 (v := ?tv8_8) K0 rfl (by kernel_rfl) ?tq8_8 (by kernel_rfl) (fun z5 hS => ?ty8_8) ?_
        case ty8_8 => go_simp; rfl
        case tq8_8 => exact fun _ _ _ h => h
        refine tkH 9 (v := ?tv9_9) K0 rfl (by kernel_rfl) ?tq9_9 (by kernel_rfl) (fun z5 hS => ?ty9_9) ?_
        case ty9_9 => go_simp; rfl
        case tq9_9 => exact fun _ _ _ h => h
        refine tkH 10 (v := ?tv10_10) K0 rfl (by kernel_rfl) ?tq10_10 (by kernel_rfl) (fun z5 hS => ?ty10_10) ?_
        case ty10_10 => go_simp; rfl
        case tq10_10 => exact fun _ _ _ h => h
        refine tkH 11 (v := ?tv11_11) K0 rfl (by kernel_rfl) ?tq11_11 (by kernel_rfl) (fun z5 hS => ?ty11_11) ?_
        case ty11_11 => have g0 := (HLc.out z5 (HI.out.bel.trans (hS.mono (by have := HI.out.le; omega))) (i * 2)).trans HLv.out.1; have g1 := (HLc.out z5 (HI.out.bel.trans (hS.mono (by have := HI.out.le; omega))) (i * 2 + 1)).trans HLv.out.2; (try simp only at g0 g1); go_simp; rfl
        case tq11_11 => exact fun _ _ _ h => h
        refine wpAnyH_one (i := 6) (by kernel_rfl) rfl (by kernel_rfl) (fun K hK => ?_)
        go_simp
        (with_reducible refine (HIn.out _ (HI.out.bel.trans (K0.mono (by have := HI.out.le; omega)))).mono ?_)
        rintro e z1 ⟨he, hb1⟩
        subst he
        have K1 := K0.trans (hb1.mono K0.size)
        refine hK.out _ _ K1 ?_
        refine wpAnyH_one (i := 12) (by kernel_rfl) rfl (by kernel_rfl) (fun K hK => ?_)
        go_simp
        (with_reducible refine (HIn0.out _ (HI.out.bel.trans (K1.mono (by have := HI.out.le; omega)))).mono ?_)
        rintro e z2 ⟨he, hb2⟩
        subst he
        have K2 := K1.trans (hb2.mono K1.size)
        refine hK.out _ _ K2 ?_
        refine wpAnyH_one (i := 13) (by kernel_rfl) rfl (by kernel_rfl) (fun K hK => ?_)
        go_simp
        (with_reducible refine (rwanted0 x false _).mono ?_)
        rintro e z3 ⟨he, hb3⟩
        subst he
        rw [Bool.or_false]
        have K3 := K2.trans (hb3.mono K2.size)
        refine hK.out _ _ K3 ?_
        refine wpAnyH_one (i := 14) (by kernel_rfl) rfl (by kernel_rfl) (fun K hK => ?_)
        go_simp
        refine hK.out _ _ K3 ?_
        refine wpAnyH_end (by kernel_rfl) ?_ _
        have HJ := Lib.hid (HI.out.below K3)
        clear K0 K1 K2 K3 hb1 hb2 hb3 hs0 HI
        cases x
        · cases op
          · go_wp2_with fail
            go_roundw
            case rel => exact ⟨i + 1, A3, n3, c3, qs, false, ⟨di, dg, dA, dn, dc, dl⟩, e0, by omega, by go_num, rfl, rfl, Lib.hid (HJ.out.same (by rw [HDr.out]; exact sweep_out HFx.out))⟩
            case measure => simp [intOf]; omega
          · obtain ⟨y0, y1, y2⟩ := HJ.out.box.cells
            simp only at y0 y1 y2
            have hxl := HJ.out.box.lt
            obtain ⟨zm, hzm⟩ : ∃ z, qz + om = z := ⟨_, rfl⟩
            have HZm := Lib.hid hzm
            have HZl := Lib.hid (show (digs 2 zm.natAbs).length ≤ M + 2 by rw [← hzm, HOm.out]; exact len2_up (-1) (by decide) HSq.out)
            have HOl := Lib.hid (show (digs 2 om.natAbs).length ≤ 2000000000 by rw [HOm.out]; exact Nat.le_trans (digs_length_le (k := 1) (by decide) (by decide)) (by omega))
            clear hzm
            go_upto_region 18 with fail
            refine wp_region_HB (C + 1) (by kernel_rfl) (fun z0 K0 hs0 => ?_)
            have S0 : Below (C + 1) z3 z0 := K0.mono HJ.out.le
            refine tkH 0 (v := ?tv0_12) S0 rfl (by kernel_rfl) ?tq0_12 (by kernel_rfl) (fun z5 hS => ?ty0_12) ?_
            case ty0_12 => go_simp; rfl
            case tq0_12 => exact fun _ _ _ h => h
            refine tkH 1 (v := ?tv1_13) S0 rfl (by kernel_rfl) ?tq1_13 (by kernel_rfl) (fun z5 hS => ?ty1_13) ?_
            case ty1_13 => obtain ⟨q0, q1, q2⟩ := (show NBox z5 C _ from (hS.block C (by omega)).trans HJ.out.box).cells; (try simp only at q0 q1 q2); go_simp; rfl
            case tq1_13 => exact fun _ _ _ h => h
            refine tkH 2 (v := ?tv2_14) S0 rfl (by kernel_rfl) ?tq2_14 (by kernel_rfl) (fun z5 hS => ?ty2_14) ?_
            case ty2_14 => go_simp; rfl
            case tq2_14 => exact fun _ _ _ h => h
            refine tkH 3 (v := ?tv3_15) S0 rfl (by kernel_rfl) ?tq3_15 (by kernel_rfl) (fun z5 hS => ?ty3_15) ?_
            case ty3_15 => go_simp; rfl
            case tq3_15 => exact fun _ _ _ h => h
            refine tkH 4 (v := ?tv4_16) S0 rfl (by kernel_rfl) ?tq4_16 (by kernel_rfl) (fun z5 hS => ?ty4_16) ?_
            case ty4_16 => go_simp; rfl
            case tq4_16 => exact fun _ _ _ h => h
            refine tkH 5 (v := ?tv5_17) S0 rfl (by kernel_rfl) ?tq5_17 (by kernel_rfl) (fun z5 hS => ?ty5_17) ?_
            case ty5_17 => have g0 := (HLc.out z5 (HJ.out.bel.trans (hS.mono (by omega))) (i * 2)).trans HLv.out.1; have g1 := (HLc.out z5 (HJ.out.bel.trans (hS.mono (by omega))) (i * 2 + 1)).trans HLv.out.2; (try simp only at g0 g1); go_simp; rfl
            case tq5_17 => exact fun _ _ _ h => h
            refine wpAnyH_one (i := 6) (by kernel_rfl) rfl (by kernel_rfl) (fun K hK => ?_)
            go_simp
            (with_reducible refine (HFm.out _).mono ?_)
            rintro e z1 ⟨v, he, hr1, hb1⟩
            obtain ⟨A5, c5, rfl, ho5⟩ := hr1.at_
            subst he
            have K1 := K0.trans (hb1.mono K0.size)
            have S1 : Below (C + 1) z3 z1 := K1.mono HJ.out.le
            have hs5 : SlI z1 z1.heap.size A5 (digs 2 om.natAbs).length c5 (digs 2 om.natAbs) := (show LimB z1 (Fr z0.heap.size z1) A5 (digs 2 om.natAbs).length c5 (digs 2 om.natAbs) from ho5).sl (fun b hb => hb.2)
            have hsq : SlI z1 z1.heap.size qA (digs 2 qz.natAbs).length qc (digs 2 qz.natAbs) := (HKs.out.keep (Q := fun b => b < z1.heap.size) (fun b hb => ⟨by have := S1.size; have := HJ.out.le; omega, (S1.block b (by omega)).trans (HJ.out.bel.block b hb)⟩)).sl (fun b hb => hb)
            refine hK.out _ _ S1 ?_
            refine wpAnyH_one (i := 7) (by kernel_rfl) rfl (by kernel_rfl) (fun K hK => ?_)
            go_simp
            (with_reducible refine (rsum_dd (z := zm) hsq hs5 (Nat.le_trans HSq.out (by have := HMn.out.2.1; omega)) HOl.out (Nat.le_refl _) (Nat.le_refl _) HZm.out).mono ?_)
            rintro e z2 ⟨v, he, hr2, hb2⟩
            obtain ⟨A6, c6, rfl, ho6⟩ := hr2.at_
            subst he
            have K2 := K1.trans (hb2.mono K1.size)
            have S2 : Below (C + 1) z3 z2 := K2.mono HJ.out.le
            refine hK.out _ _ S2 ?_
            refine tkH 8 (v := ?tv8_18) S2 rfl (by kernel_rfl) ?tq8_18 (by kernel_rfl) (fun z5 hS => ?ty8_18) ?_
            case ty8_18 => go_simp; rfl
            case tq8_18 => exact fun _ _ _ h => h
            refine tkH 9 (v := ?tv9_19) S2 rfl (by kernel_rfl) ?tq9_19 (by kernel_rfl) (fun z5 hS => ?ty9_19) ?_
            case ty9_19 => go_simp; rfl
            case tq9_19 => exact fun _ _ _ h => h
            refine wpAnyH_one (i := 10) (by kernel_rfl) rfl (by kernel_rfl) (fun K hK => ?_)
            go_simp
            have hz2 := K2.size
            have hz1 := K1.size
            have hle := HJ.out.le
            have S3 : Below (C + 1) z3 (z2.alloc (.cells #[.int .i64 di, .bool dg, .slice dA dn dc, .int .i64 0, .bool (decide (zm < 0)), .slice A6 (digs 2 zm.natAbs).length c6] 68)) := S2.alloc (by omega) _
            refine hK.out _ _ S3 ?_
            refine wpAnyH_one (i := 11) (by kernel_rfl) rfl (by kernel_rfl) (fun K hK => ?_)
            have HR7 := Lib.hid (HJ.out.below K2)
            have HSg := Lib.hid (show Sg z2 (fun b => Or (fun b => b < C) (C + 1) z2 b ∧ (Value.slice A3 n3 c3).ownBlock ≠ some b) ((⟨di, dg, dA, dn, dc, dl⟩ : Bd), rb (.num zm) A6 c6) from
              ⟨Sb.mk_ (HR7.out.lo.keep (fun b hb => ⟨⟨.inl hb, HJ.out.row.ne_old (.inl (by omega))⟩, rfl⟩)),
               Sb.mk_ (e := .num zm) ⟨LimB.keep (show LimB z2 (Fr z1.heap.size z2) A6 (digs 2 zm.natAbs).length c6 (digs 2 zm.natAbs) from ho6) (fun b hb => ⟨⟨.inr ⟨by have := hb.1; omega, hb.2⟩, HJ.out.row.ne_old (.inr (by have := hb.1; omega))⟩, rfl⟩), ⟨_, _, rfl⟩, Nat.le_trans HZl.out (by have := HMn.out.2.1; omega)⟩⟩)
            refine step_app1PS (q := ((⟨di, dg, dA, dn, dc, dl⟩ : Bd), rb (.num zm) A6 c6)) rfl _ _ rfl (by rfl) (by rfl) HR7.out.row HR7.out.le (fun b hb => by omega) HSg.out HMi.out ?_
            intro A7 c7 w9 hr9 hb9 hs9 hx9
            have HS9 := Lib.hid (show Below (C + 1) z3 w9 from S2.trans hb9)
            have HR9 := Lib.hid (And.intro hr9 (show C + 1 ≤ w9.heap.size by omega))
            refine hK.out _ _ HS9.out ?_
            clear hs5 hsq K0 K1 K2 S0 S1 S2 S3 hb1 hb2 hb9 hs9 hr9 hx9 ho5 ho6 hr1 hr2 hs0 hz1 hz2 hle
            refine wpAnyH_one (i := 12) (by kernel_rfl) rfl (by kernel_rfl) (fun K hK => ?_)
            go_simp
            refine hK.out _ _ HS9.out ?_
            refine wpAnyH_end (by kernel_rfl) ?_ _
            go_wp2_with fail
            go_roundw
            case rel => exact ⟨i + 1, A7, _, c7, _, false, ⟨di, dg, dA, dn, dc, dl⟩, e0, by omega, by go_num, rfl, by go_num, Lib.hid ⟨HJ.out.bel.trans (HS9.out.mono (by omega)), HR9.out.2, (HS9.out.block C (by omega)).trans HJ.out.box, HJ.out.lo.keep (fun b hb => ⟨hb, HS9.out.block b (by omega)⟩), HR9.out.1, by have := HJ.out.len; omega, by
              have h1 := HJ.out.val
              rw [HDr.out, if_pos rfl, sweep_shut HFx.out] at h1
              rw [h1, List.map_append, List.append_assoc]
              congr 1
              show _ = edsS _ :: _
              unfold edsS
              rw [HJ.out.lo.ed, rb_ed, show zm = qz - 1 by rw [← HZm.out, HOm.out]; omega]
              rfl⟩⟩
            case measure => simp [intOf]; omega
        · cases op
          · obtain ⟨y0, y1, y2⟩ := HJ.out.box.cells
            obtain ⟨f0, f1, f2⟩ := HJ.out.box.frozens
            have l0 := (HLc.out _ HJ.out.bel (i * 2)).trans HLv.out.1
            have l1 := (HLc.out _ HJ.out.bel (i * 2 + 1)).trans HLv.out.2
            (try simp only at y0 y1 y2 l0 l1)
            have hxl := HJ.out.box.lt
            have HSet := Lib.hid (HJ.out.box.set3 (rb (.num qz) qA qc))
            simp only [rb] at HSet
            go_wp2_with fail
            go_roundw
            case rel =>
              have hle := HJ.out.le
              exact ⟨i + 1, A3, n3, c3, qs, true, rb (.num qz) qA qc, .num qz, by omega, by go_num, rfl, rfl, Lib.hid ⟨HJ.out.bel.grown HSet.out.2 (by omega) (fun j e => by injection e with e; omega), Nat.le_trans hle HSet.out.2.size, HSet.out.1, (HSb.out _ HJ.out.bel).keep (fun b hb => ⟨hb, HSet.out.2.block b (by omega) (fun e => by injection e with e; omega)⟩), HJ.out.row.gro hle HSet.out.2, by have := HJ.out.len; omega, by
                have h1 := HJ.out.val
                rw [HDr.out] at h1
                rw [h1]
                congr 1
                exact sweep_open HFx.out⟩⟩
            case measure => simp [intOf]; omega
          · go_wp2_with fail
            go_roundw
            case rel => exact ⟨i + 1, A3, n3, c3, qs, true, ⟨di, dg, dA, dn, dc, dl⟩, e0, by omega, by go_num, rfl, rfl, Lib.hid (HJ.out.same (by rw [HDr.out]; exact sweep_in HFx.out))⟩
            case measure => simp [intOf]; omega
      · have hki : ¬ (i : Int) < (m : Int) := by omega
        have HTn := Lib.hid (show T.drop i = [] from List.drop_eq_nil_of_le (by have := HTl.out; omega))
        have HFin := Lib.hid (fun (A' : Option Addr) (n' c' : Nat) (qs' : List Rg) (u : World) (h1 : SRow u (C + 1) (Or (fun b => b < C) (C + 1) u) A' n' c' qs') (h2 : N = qs'.map edsS) (h3 : Below C w2 u) (h4 : C + 1 ≤ u.heap.size) => show BuiltPostB B w L (.returned (.slice A' n' c')) u from
          ⟨A', n', c', qs', rfl, (h1.lower (by have := HC.out; have := HSz.out; omega)).wide (fun b hb => hb.elim (fun h => by have h2 : b < C := h; omega) (·.2)), h2 ▸ HNs.out.1, fun z => by rw [← h2]; exact HNs.out.2 z, HBt.out.trans (h3.mono (by have := HC.out; have := HSz.out; omega))⟩)
        have HMi := Lib.hid (show n3 + 1 ≤ maxRg by have := HI.out.len; have := HMx.out; omega)
        have HVal := Lib.hid HI.out.val
        rw [HTn.out] at HVal
        cases op
        · have key := HFin.out A3 n3 c3 qs wr HI.out.row (by rw [HVal.out]; show _ ++ [] = _; rw [List.append_nil]) HI.out.bel HI.out.le
          clear HFin
          go_wp2_with fail
          exact bodyPost_ret (v := .slice A3 n3 c3) (by simp [results, Try.results62, go_sem]) rfl key
        · obtain ⟨y0, y1, y2⟩ := HI.out.box.cells
          simp only at y0 y1 y2
          have hxl := HI.out.box.lt
          have HSg := Lib.hid (show Sg wr (fun b => Or (fun b => b < C) (C + 1) wr b ∧ (Value.slice A3 n3 c3).ownBlock ≠ some b) ((⟨di, dg, dA, dn, dc, dl⟩ : Bd), rb .hi none 0) from
            ⟨Sb.mk_ (HI.out.lo.keep (fun b hb => ⟨⟨.inl hb, HI.out.row.ne_old (.inl (by omega))⟩, rfl⟩)), Sb.mk_ (sb_hi _ _)⟩)
          go_wp2_with (at_builtin; refine wpList_app1PS (q := ((⟨di, dg, dA, dn, dc, dl⟩ : Bd), rb .hi none 0)) rfl _ _ rfl rfl rfl HI.out.row HI.out.le (fun b hb => by omega) HSg.out HMi.out ?_; intro A7 c7 w9 hr9 hb9 hs9 hx9)
          have hle := HI.out.le
          have key := HFin.out A7 (n3 + 1) c7 _ w9 hr9 (by
            rw [HVal.out, List.map_append]
            congr 1
            show [_] = [edsS _]
            unfold edsS
            rw [HI.out.lo.ed, rb_ed]) (HI.out.bel.trans (hb9.mono (by omega))) (by omega)
          exact bodyPost_ret (v := .slice A7 (n3 + 1) c7) (by simp [results, Try.results62, go_sem]) rfl key
  · have HSet := Lib.hid (HX5.out.set3 ⟨-1, false, none, 0, 0, []⟩)
    simp only at HSet
    go_upto_region 9 with fail
    generalize ((w5.setCell ⟨C, 0, none⟩ (.int .i64 (-1))).setCell ⟨C, 1, none⟩ (.bool false)).setCell ⟨C, 2, none⟩ (.slice none 0 0) = w6 at *
    have HB6 := Lib.hid (show Below C w2 w6 from HB5.out.grown HSet.out.2 HSz5.out (fun j e => by injection e with e; omega))
    have HBL0 := Lib.hid (show BL w2 C C F T N 0 true none 0 0 [] ⟨-1, false, none, 0, 0, []⟩ .lo w6 from ⟨HB6.out, Nat.le_trans hxl HSet.out.2.size, HSet.out.1, sb_lo _ _, SRow.nil _ _ _, Nat.le_refl _, by rw [← HNn.out]; rfl⟩)
    clear f0 f1 f2 y0 y1 y2 hxl HX5
    go_wp2_with fail
    go_loopw [8, 9, 12] (fun vo vp vi wr => ∃ i A' m' c' qs op d e, i ≤ m ∧ vi = .int .i64 (i : Nat) ∧ vp = .bool op ∧ vo = .slice A' m' c' ∧ Hid (BL w2 C C F T N i op A' m' c' qs d e wr)) (fun _ _ vi _ => m - (intOf vi).toNat)
    case atStart => exact ⟨0, none, 0, 0, [], true, _, _, Nat.zero_le _, rfl, rfl, rfl, HBL0⟩
    case round =>
      obtain ⟨i, A3, n3, c3, qs, op, ⟨di, dg, dA, dn, dc, dl⟩, e0, hi, rfl, rfl, rfl, HI⟩ := hrel
      clear HBL0
      by_cases him : i < m
      · obtain ⟨q, hq⟩ : ∃ q, bs[i]? = some q := ⟨bs[i]'(by have := HT2.out.1.len; omega), by simp⟩
        obtain ⟨gt, hgt, hgt1, hgt2, _⟩ := HT2.out.1.some_ (by omega)
        subst hgt
        obtain ⟨l0, l1⟩ := HT2.out.1.cells_at hq
        have hgtC : gt < C := by have := HC.out; omega
        have HLc := Lib.hid (fun (z : World) (hz : Below C w2 z) (j : Nat) => (World.cell?_of_block (a := ⟨gt, j, none⟩) (hz.block gt hgtC)))
        have HKq := Lib.hid (HT2.out.1.kid q (List.mem_of_getElem? hq))
        have HSq := Lib.hid (HT2.out.2.2.2.2 q (List.mem_of_getElem? hq))
        have hTi : T[i]? = some q.z := by rw [← HTb.out, List.getElem?_map, hq]; rfl
        have HDr := Lib.hid (show T.drop i = q.z :: T.drop (i + 1) by
          rw [List.drop_eq_getElem_cons (by have := HTl.out; omega), (List.getElem?_eq_some_iff.1 hTi).2])
        obtain ⟨qz, qA, qc⟩ := q
        have HKs := Lib.hid (show LimB w2 (fun b => b < C) qA (digs 2 qz.natAbs).length qc (digs 2 qz.natAbs) from LimB.wide (show LimB w2 _ qA (digs 2 qz.natAbs).length qc (digs 2 qz.natAbs) from HKq.out) (fun b hb => by have := hb.1; have := HC.out; omega))
        have HLv := Lib.hid (And.intro l0 l1)
        have HSb := Lib.hid (fun (y : World) (hy : Below C w2 y) => show Sb y (fun b => b < C) (.num qz) (rb (.num qz) qA qc) from ⟨HKs.out.keep (fun b hb => ⟨hb, hy.block b hb⟩), ⟨_, _, rfl⟩, Nat.le_trans HSq.out (by have := HMn.out.2.1; omega)⟩)
        have HIn := Lib.hid (fun (y : World) (hy : Below C w2 y) => rIn_any (HSS.out y hy) (fun b hb => by have := HSz.out; have := hy.size; omega) (HSb.out y hy) (fun b hb => by have := hy.size; have := HC.out; omega))
        have HIn0 := Lib.hid (fun (y : World) (hy : Below C w2 y) => rIn_any (HSN.out y) (fun b hb => by have := HSz.out; have := hy.size; omega) (HSb.out y hy) (fun b hb => by have := hy.size; have := HC.out; omega))
        rw [HL.out] at HIn
        obtain ⟨x, hx⟩ : ∃ x, L.any (inB qz) = x := ⟨_, rfl⟩
        rw [hx] at HIn
        have HFx := Lib.hid (show F qz = x from (HFz.out qz).trans hx)
        have hii : (i : Int) < (m : Int) := by omega
        have hi0 : (0 : Int) ≤ (i : Int) := by omega
        have HMi := Lib.hid (show n3 + 1 ≤ maxRg by have := HI.out.len; have := HMx.out; omega)
        clear hq hTi hx l0 l1
        go_upto_region 12 with fail
        refine wp_region_H (by kernel_rfl) (fun z0 K0 hs0 => ?_)
        refine tkH 0 (v := ?tv0_20) K0 rfl (by kernel_rfl) ?tq0_20 (by kernel_rfl) (fun z5 hS => ?ty0_20) ?_
        case ty0_20 => go_simp; rfl
        case tq0_20 => exact fun _ _ _ h => h
        refine tkH 1 (v := ?tv1_21) K0 rfl (by kernel_rfl) ?tq1_21 (by kernel_rfl) (fun z5 hS => ?ty1_21) ?_
        case ty1_21 => go_simp; rfl
        case tq1_21 => exact fun _ _ _ h => h
        refine tkH 2 (v := ?tv2_22) K0 rfl (by kernel_rfl) ?tq2_22 (by kernel_rfl) (fun z5 hS => ?ty2_22) ?_
        case ty2_22 => go_simp; rfl
        case tq2_22 => exact fun _ _ _ h => h
        refine tkH 3 (v := ?tv3_23) K0 rfl (by kernel_rfl) ?tq3_23 (by kernel_rfl) (fun z5 hS => ?ty3_23) ?_
        case ty3_23 => go_simp; rfl
        case tq3_23 => exact fun _ _ _ h => h
        refine tkH 4 (v := ?tv4_24) K0 rfl (by kernel_rfl) ?tq4_24 (by kernel_rfl) (fun z5 hS => ?ty4_24) ?_
        case ty4_24 => go_simp; rfl
        case tq4_24 => exact fun _ _ _ h => h
        refine tkH 5 (v := ?tv5_25) K0 rfl (by kernel_rfl) ?tq5_25 (by kernel_rfl) (fun z5 hS => ?ty5_25) ?_
        case ty5_25 => have g0 := (HLc.out z5 (HI.out.bel.trans (hS.mono (by have := HI.out.le; omega))) (i * 2)).trans HLv.out.1; have g1 := (HLc.out z5 (HI.out.bel.trans (hS.mono (by have := HI.out.le; omega))) (i * 2 + 1)).trans HLv.out.2; (try simp only at g0 g1); go_simp; rfl
        case tq5_25 => exact fun _ _ _ h => h
        refine tkH 7 (v := ?tv7_26) K0 rfl (by kernel_rfl) ?tq7_26 (by kernel_rfl) (fun z5 hS => ?ty7_26) ?_
        case ty7_26 => go_simp; rfl
        case tq7_26 => exact fun _ _ _ h => h
        refine tkH 8 (v := ?tv8_27) K0 rfl (by kernel_rfl) ?tq8_27 (by kernel_rfl) (fun z5 hS => ?ty8_27) ?_
        case ty8_27 => go_simp; rfl
        case tq8_27 => exact fun _ _ _ h => h
        refine tkH 9 (v := ?tv9_28) K0 rfl (by kernel_rfl) ?tq9_28 (by kernel_rfl) (fun z5 hS => ?ty9_28) ?_
        case ty9_28 => go_simp; rfl
        case tq9_28 => exact fun _ _ _ h => h
        refine tkH 10 (v := ?tv10_29) K0 rfl (by kernel_rfl) ?tq10_29 (by kernel_rfl) (fun z5 hS => ?ty10_29) ?_
        case ty10_29 => go_simp; rfl
        case tq10_29 => exact fun _ _ _ h => h
        refine tkH 11 (v := ?tv11_30) K0 rfl (by kernel_rfl) ?tq11_30 (by kernel_rfl) (fun z5 hS => ?ty11_30) ?_
        case ty11_30 => have g0 := (HLc.out z5 (HI.out.bel.trans (hS.mono (by have := HI.out.le; omega))) (i * 2)).trans HLv.out.1; have g1 := (HLc.out z5 (HI.out.bel.trans (hS.mono (by have := HI.out.le; omega))) (i * 2 + 1)).trans HLv.out.2; (try simp only at g0 g1); go_simp; rfl
        case tq11_30 => exact fun _ _ _ h => h
        refine wpAnyH_one (i := 6) (by kernel_rfl) rfl (by kernel_rfl) (fun K hK => ?_)
        go_simp
        (with_reducible refine (HIn.out _ (HI.out.bel.trans (K0.mono (by have := HI.out.le; omega)))).mono ?_)
        rintro e z1 ⟨he, hb1⟩
        subst he
        have K1 := K0.trans (hb1.mono K0.size)
        refine hK.out _ _ K1 ?_
        refine wpAnyH_one (i := 12) (by kernel_rfl) rfl (by kernel_rfl) (fun K hK => ?_)
        go_simp
        (with_reducible refine (HIn0.out _ (HI.out.bel.trans (K1.mono (by have := HI.out.le; omega)))).mono ?_)
        rintro e z2 ⟨he, hb2⟩
        subst he
        have K2 := K1.trans (hb2.mono K1.size)
        refine hK.out _ _ K2 ?_
        refine wpAnyH_one (i := 13) (by kernel_rfl) rfl (by kernel_rfl) (fun K hK => ?_)
        go_simp
        (with_reducible refine (rwanted0 x false _).mono ?_)
        rintro e z3 ⟨he, hb3⟩
        subst he
        rw [Bool.or_false]
        have K3 := K2.trans (hb3.mono K2.size)
        refine hK.out _ _ K3 ?_
        refine wpAnyH_one (i := 14) (by kernel_rfl) rfl (by kernel_rfl) (fun K hK => ?_)
        go_simp
        refine hK.out _ _ K3 ?_
        refine wpAnyH_end (by kernel_rfl) ?_ _
        have HJ := Lib.hid (HI.out.below K3)
        clear K0 K1 K2 K3 hb1 hb2 hb3 hs0 HI
        cases x
        · cases op
          · go_wp2_with fail
            go_roundw
            case rel => exact ⟨i + 1, A3, n3, c3, qs, false, ⟨di, dg, dA, dn, dc, dl⟩, e0, by omega, by go_num, rfl, rfl, Lib.hid (HJ.out.same (by rw [HDr.out]; exact sweep_out HFx.out))⟩
            case measure => simp [intOf]; omega
          · obtain ⟨y0, y1, y2⟩ := HJ.out.box.cells
            simp only at y0 y1 y2
            have hxl := HJ.out.box.lt
            obtain ⟨zm, hzm⟩ : ∃ z, qz + om = z := ⟨_, rfl⟩
            have HZm := Lib.hid hzm
            have HZl := Lib.hid (show (digs 2 zm.natAbs).length ≤ M + 2 by rw [← hzm, HOm.out]; exact len2_up (-1) (by decide) HSq.out)
            have HOl := Lib.hid (show (digs 2 om.natAbs).length ≤ 2000000000 by rw [HOm.out]; exact Nat.le_trans (digs_length_le (k := 1) (by decide) (by decide)) (by omega))
            clear hzm
            go_upto_region 18 with fail
            refine wp_region_HB (C + 1) (by kernel_rfl) (fun z0 K0 hs0 => ?_)
            have S0 : Below (C + 1) z3 z0 := K0.mono HJ.out.le
            refine tkH 0 (v := ?tv0_31) S0 rfl (by kernel_rfl) ?tq0_31 (by kernel_rfl) (fun z5 hS => ?ty0_31) ?_
            case ty0_31 => go_simp; rfl
            case tq0_31 => exact fun _ _ _ h => h
            refine tkH 1 (v := ?tv1_32) S0 rfl (by kernel_rfl) ?tq1_32 (by kernel_rfl) (fun z5 hS => ?ty1_32) ?_
            case ty1_32 => obtain ⟨q0, q1, q2⟩ := (show NBox z5 C _ from (hS.block C (by omega)).trans HJ.out.box).cells; (try simp only at q0 q1 q2); go_simp; rfl
            case tq1_32 => exact fun _ _ _ h => h
            refine tkH 2 (v := ?tv2_33) S0 rfl (by kernel_rfl) ?tq2_33 (by kernel_rfl) (fun z5 hS => ?ty2_33) ?_
            case ty2_33 => go_simp; rfl
            case tq2_33 => exact fun _ _ _ h => h
            refine tkH 3 (v := ?tv3_34) S0 rfl (by kernel_rfl) ?tq3_34 (by kernel_rfl) (fun z5 hS => ?ty3_34) ?_
            case ty3_34 => go_simp; rfl
            case tq3_34 => exact fun _ _ _ h => h
            refine tkH 4 (v := ?tv4_35) S0 rfl (by kernel_rfl) ?tq4_35 (by kernel_rfl) (fun z5 hS => ?ty4_35) ?_
            case ty4_35 => go_simp; rfl
            case tq4_35 => exact fun _ _ _ h => h
            refine tkH 5 (v := ?tv5_36) S0 rfl (by kernel_rfl) ?tq5_36 (by kernel_rfl) (fun z5 hS => ?ty5_36) ?_
            case ty5_36 => have g0 := (HLc.out z5 (HJ.out.bel.trans (hS.mono (by omega))) (i * 2)).trans HLv.out.1; have g1 := (HLc.out z5 (HJ.out.bel.trans (hS.mono (by omega))) (i * 2 + 1)).trans HLv.out.2; (try simp only at g0 g1); go_simp; rfl
            case tq5_36 => exact fun _ _ _ h => h
            refine wpAnyH_one (i := 6) (by kernel_rfl) rfl (by kernel_rfl) (fun K hK => ?_)
            go_simp
            (with_reducible refine (HFm.out _).mono ?_)
            rintro e z1 ⟨v, he, hr1, hb1⟩
            obtain ⟨A5, c5, rfl, ho5⟩ := hr1.at_
            subst he
            have K1 := K0.trans (hb1.mono K0.size)
            have S1 : Below (C + 1) z3 z1 := K1.mono HJ.out.le
            have hs5 : SlI z1 z1.heap.size A5 (digs 2 om.natAbs).length c5 (digs 2 om.natAbs) := (show LimB z1 (Fr z0.heap.size z1) A5 (digs 2 om.natAbs).length c5 (digs 2 om.natAbs) from ho5).sl (fun b hb => hb.2)
            have hsq : SlI z1 z1.heap.size qA (digs 2 qz.natAbs).length qc (digs 2 qz.natAbs) := (HKs.out.keep (Q := fun b => b < z1.heap.size) (fun b hb => ⟨by have := S1.size; have := HJ.out.le; omega, (S1.block b (by omega)).trans (HJ.out.bel.block b hb)⟩)).sl (fun b hb => hb)
            refine hK.out _ _ S1 ?_
            refine wpAnyH_one (i := 7) (by kernel_rfl) rfl (by kernel_rfl) (fun K hK => ?_)
            go_simp
            (with_reducible refine (rsum_dd (z := zm) hsq hs5 (Nat.le_trans HSq.out (by have := HMn.out.2.1; omega)) HOl.out (Nat.le_refl _) (Nat.le_refl _) HZm.out).mono ?_)
            rintro e z2 ⟨v, he, hr2, hb2⟩
            obtain ⟨A6, c6, rfl, ho6⟩ := hr2.at_
            subst he
            have K2 := K1.trans (hb2.mono K1.size)
            have S2 : Below (C + 1) z3 z2 := K2.mono HJ.out.le
            refine hK.out _ _ S2 ?_
            refine tkH 8 (v := ?tv8_37) S2 rfl (by kernel_rfl) ?tq8_37 (by kernel_rfl) (fun z5 hS => ?ty8_37) ?_
            case ty8_37 => go_simp; rfl
            case tq8_37 => exact fun _ _ _ h => h
            refine tkH 9 (v := ?tv9_38) S2 rfl (by kernel_rfl) ?tq9_38 (by kernel_rfl) (fun z5 hS => ?ty9_38) ?_
            case ty9_38 => go_simp; rfl
            case tq9_38 => exact fun _ _ _ h => h
            refine wpAnyH_one (i := 10) (by kernel_rfl) rfl (by kernel_rfl) (fun K hK => ?_)
            go_simp
            have hz2 := K2.size
            have hz1 := K1.size
            have hle := HJ.out.le
            have S3 : Below (C + 1) z3 (z2.alloc (.cells #[.int .i64 di, .bool dg, .slice dA dn dc, .int .i64 0, .bool (decide (zm < 0)), .slice A6 (digs 2 zm.natAbs).length c6] 68)) := S2.alloc (by omega) _
            refine hK.out _ _ S3 ?_
            refine wpAnyH_one (i := 11) (by kernel_rfl) rfl (by kernel_rfl) (fun K hK => ?_)
            have HR7 := Lib.hid (HJ.out.below K2)
            have HSg := Lib.hid (show Sg z2 (fun b => Or (fun b => b < C) (C + 1) z2 b ∧ (Value.slice A3 n3 c3).ownBlock ≠ some b) ((⟨di, dg, dA, dn, dc, dl⟩ : Bd), rb (.num zm) A6 c6) from
              ⟨Sb.mk_ (HR7.out.lo.keep (fun b hb => ⟨⟨.inl hb, HJ.out.row.ne_old (.inl (by omega))⟩, rfl⟩)),
               Sb.mk_ (e := .num zm) ⟨LimB.keep (show LimB z2 (Fr z1.heap.size z2) A6 (digs 2 zm.natAbs).length c6 (digs 2 zm.natAbs) from ho6) (fun b hb => ⟨⟨.inr ⟨by have := hb.1; omega, hb.2⟩, HJ.out.row.ne_old (.inr (by have := hb.1; omega))⟩, rfl⟩), ⟨_, _, rfl⟩, Nat.le_trans HZl.out (by have := HMn.out.2.1; omega)⟩⟩)
            refine step_app1PS (q := ((⟨di, dg, dA, dn, dc, dl⟩ : Bd), rb (.num zm) A6 c6)) rfl _ _ rfl (by rfl) (by rfl) HR7.out.row HR7.out.le (fun b hb => by omega) HSg.out HMi.out ?_
            intro A7 c7 w9 hr9 hb9 hs9 hx9
            have HS9 := Lib.hid (show Below (C + 1) z3 w9 from S2.trans hb9)
            have HR9 := Lib.hid (And.intro hr9 (show C + 1 ≤ w9.heap.size by omega))
            refine hK.out _ _ HS9.out ?_
            clear hs5 hsq K0 K1 K2 S0 S1 S2 S3 hb1 hb2 hb9 hs9 hr9 hx9 ho5 ho6 hr1 hr2 hs0 hz1 hz2 hle
            refine wpAnyH_one (i := 12) (by kernel_rfl) rfl (by kernel_rfl) (fun K hK => ?_)
            go_simp
            refine hK.out _ _ HS9.out ?_
            refine wpAnyH_end (by kernel_rfl) ?_ _
            go_wp2_with fail
            go_roundw
            case rel => exact ⟨i + 1, A7, _, c7, _, false, ⟨di, dg, dA, dn, dc, dl⟩, e0, by omega, by go_num, rfl, by go_num, Lib.hid ⟨HJ.out.bel.trans (HS9.out.mono (by omega)), HR9.out.2, (HS9.out.block C (by omega)).trans HJ.out.box, HJ.out.lo.keep (fun b hb => ⟨hb, HS9.out.block b (by omega)⟩), HR9.out.1, by have := HJ.out.len; omega, by
              have h1 := HJ.out.val
              rw [HDr.out, if_pos rfl, sweep_shut HFx.out] at h1
              rw [h1, List.map_append, List.append_assoc]
              congr 1
              show _ = edsS _ :: _
              unfold edsS
              rw [HJ.out.lo.ed, rb_ed, show zm = qz - 1 by rw [← HZm.out, HOm.out]; omega]
              rfl⟩⟩
            case measure => simp [intOf]; omega
        · cases op
          · obtain ⟨y0, y1, y2⟩ := HJ.out.box.cells
            obtain ⟨f0, f1, f2⟩ := HJ.out.box.frozens
            have l0 := (HLc.out _ HJ.out.bel (i * 2)).trans HLv.out.1
            have l1 := (HLc.out _ HJ.out.bel (i * 2 + 1)).trans HLv.out.2
            (try simp only at y0 y1 y2 l0 l1)
            have hxl := HJ.out.box.lt
            have HSet := Lib.hid (HJ.out.box.set3 (rb (.num qz) qA qc))
            simp only [rb] at HSet
            go_wp2_with fail
            go_roundw
            case rel =>
              have hle := HJ.out.le
              exact ⟨i + 1, A3, n3, c3, qs, true, rb (.num qz) qA qc, .num qz, by omega, by go_num, rfl, rfl, Lib.hid ⟨HJ.out.bel.grown HSet.out.2 (by omega) (fun j e => by injection e with e; omega), Nat.le_trans hle HSet.out.2.size, HSet.out.1, (HSb.out _ HJ.out.bel).keep (fun b hb => ⟨hb, HSet.out.2.block b (by omega) (fun e => by injection e with e; omega)⟩), HJ.out.row.gro hle HSet.out.2, by have := HJ.out.len; omega, by
                have h1 := HJ.out.val
                rw [HDr.out] at h1
                rw [h1]
                congr 1
                exact sweep_open HFx.out⟩⟩
            case measure => simp [intOf]; omega
          · go_wp2_with fail
            go_roundw
            case rel => exact ⟨i + 1, A3, n3, c3, qs, true, ⟨di, dg, dA, dn, dc, dl⟩, e0, by omega, by go_num, rfl, rfl, Lib.hid (HJ.out.same (by rw [HDr.out]; exact sweep_in HFx.out))⟩
            case measure => simp [intOf]; omega
      · have hki : ¬ (i : Int) < (m : Int) := by omega
        have HTn := Lib.hid (show T.drop i = [] from List.drop_eq_nil_of_le (by have := HTl.out; omega))
        have HFin := Lib.hid (fun (A' : Option Addr) (n' c' : Nat) (qs' : List Rg) (u : World) (h1 : SRow u (C + 1) (Or (fun b => b < C) (C + 1) u) A' n' c' qs') (h2 : N = qs'.map edsS) (h3 : Below C w2 u) (h4 : C + 1 ≤ u.heap.size) => show BuiltPostB B w L (.returned (.slice A' n' c')) u from
          ⟨A', n', c', qs', rfl, (h1.lower (by have := HC.out; have := HSz.out; omega)).wide (fun b hb => hb.elim (fun h => by have h2 : b < C := h; omega) (·.2)), h2 ▸ HNs.out.1, fun z => by rw [← h2]; exact HNs.out.2 z, HBt.out.trans (h3.mono (by have := HC.out; have := HSz.out; omega))⟩)
        have HMi := Lib.hid (show n3 + 1 ≤ maxRg by have := HI.out.len; have := HMx.out; omega)
        have HVal := Lib.hid HI.out.val
        rw [HTn.out] at HVal
        cases op
        · have key := HFin.out A3 n3 c3 qs wr HI.out.row (by rw [HVal.out]; show _ ++ [] = _; rw [List.append_nil]) HI.out.bel HI.out.le
          clear HFin
          go_wp2_with fail
          exact bodyPost_ret (v := .slice A3 n3 c3) (by simp [results, Try.results62, go_sem]) rfl key
        · obtain ⟨y0, y1, y2⟩ := HI.out.box.cells
          simp only at y0 y1 y2
          have hxl := HI.out.box.lt
          have HSg := Lib.hid (show Sg wr (fun b => Or (fun b => b < C) (C + 1) wr b ∧ (Value.slice A3 n3 c3).ownBlock ≠ some b) ((⟨di, dg, dA, dn, dc, dl⟩ : Bd), rb .hi none 0) from
            ⟨Sb.mk_ (HI.out.lo.keep (fun b hb => ⟨⟨.inl hb, HI.out.row.ne_old (.inl (by omega))⟩, rfl⟩)), Sb.mk_ (sb_hi _ _)⟩)
          go_wp2_with (at_builtin; refine wpList_app1PS (q := ((⟨di, dg, dA, dn, dc, dl⟩ : Bd), rb .hi none 0)) rfl _ _ rfl rfl rfl HI.out.row HI.out.le (fun b hb => by omega) HSg.out HMi.out ?_; intro A7 c7 w9 hr9 hb9 hs9 hx9)
          have hle := HI.out.le
          have key := HFin.out A7 (n3 + 1) c7 _ w9 hr9 (by
            rw [HVal.out, List.map_append]
            congr 1
            show [_] = [edsS _]
            unfold edsS
            rw [HI.out.lo.ed, rb_ed]) (HI.out.bel.trans (hb9.mono (by omega))) (by omega)
          exact bodyPost_ret (v := .slice A7 (n3 + 1) c7) (by simp [results, Try.results62, go_sem]) rfl key
end Go.Proofs.Ytpikjceodmepiaa

