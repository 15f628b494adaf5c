import Derived.Test.YtpikjceodmepiaaGreatDoorYsb
set_option linter.unusedVariables false
set_option linter.unusedSimpArgs false
namespace Go.Proofs.YtpikjceodmepiaaGreatDoor
open Go.RowKit Hb Hf
set_option linter.unusedVariables false
set_option linter.unusedSimpArgs false
attribute [local go_sem ↓] Go.wp_at_zero Go.wp_at_succ
set_option maxRecDepth 100000 in
set_option maxHeartbeats 4000000 in
theorem sameRanges_true {w : World} {P : Nat → Prop} {A A' : Option Addr} {n n' c c' : Nat} {ps qs : List Rg} (h : SetP w P A n c ps) (h' : SetP w P A' n' c' qs) (hP : ∀ b, P b → b < w.heap.size) (hg : ∀ p ∈ ps, p.1.Nrm ∧ p.2.Nrm) (hg' : ∀ p ∈ qs, p.1.Nrm ∧ p.2.Nrm) (he : ps.map edsR = qs.map edsR) :
    Calls Tryz.prog 29 #[.slice A n c, .slice A' n' c'] w fun e w' => e = .returned (.bool true) ∧ Below w.heap.size w w' := by
  have hnn : n' = n := by
    have h1 := congrArg List.length he
    rw [List.length_map, List.length_map, h.row.len, h'.row.len] at h1
    exact h1.symm
  subst hnn
  have HS := Lib.hid (And.intro h h')
  have HP := Lib.hid hP
  have HNm := Lib.hid (And.intro hg hg')
  have HEq := Lib.hid he
  have HLn := Lib.hid (And.intro h.row.len h'.row.len)
  have hcap := h.row.cap
  have hmax := h.row.max
  unfold maxLen at hmax
  obtain ⟨B, hB⟩ : ∃ B, w.heap.size = B := ⟨_, rfl⟩
  have HB := Lib.hid hB
  rw [hB]
  clear h h' hP hg hg' he hB
  go_enter Tryz.func29, Tryz.ntmps29
  go_wp2_with fail
  go_loopw [5] (fun vi wr => ∃ k, k ≤ n' ∧ vi = .int .i64 (k : Nat) ∧ Hid (Below B w wr)) (fun vi _ => n' - (intOf vi).toNat)
  case atStart => exact ⟨0, Nat.zero_le _, rfl, Lib.hid (Below.refl _ _)⟩
  case round =>
    obtain ⟨k, hk, rfl, HI⟩ := hrel
    by_cases hkn : k < n'
    · skip
      obtain ⟨p, hp⟩ : ∃ p, ps[k]? = some p := ⟨ps[k]'(by have := HLn.out; omega), by simp⟩
      obtain ⟨q, hq⟩ : ∃ q, qs[k]? = some q := ⟨qs[k]'(by have := HLn.out; omega), by simp⟩
      obtain ⟨b, o, rfl, hPb, q0, q1, q2, q3, q4, q5⟩ := HS.out.1.row.at_ hp
      obtain ⟨b', o', rfl, hPb', q0', q1', q2', q3', q4', q5'⟩ := HS.out.2.row.at_ hq
      have hbB : b < B := by have := HP.out b hPb; have := HB.out; omega
      have hbB' : b' < B := by have := HP.out b' hPb'; have := HB.out; omega
      have HKp := Lib.hid (HS.out.1.kid p (List.mem_of_getElem? hp))
      have HKq := Lib.hid (HS.out.2.kid q (List.mem_of_getElem? hq))
      have HNp := Lib.hid (And.intro (HNm.out.1 p (List.mem_of_getElem? hp)) (HNm.out.2 q (List.mem_of_getElem? hq)))
      have hee : edsR p = edsR q := by
        have h1 := congrArg (fun l => l[k]?) HEq.out
        simp only [List.getElem?_map, hp, hq, Option.map_some] at h1
        exact Option.some.inj h1
      unfold edsR at hee
      injection hee with he1 he2
      have HE := Lib.hid (And.intro (Bd.Nrm.same HNp.out.1.1 HNp.out.2.1 he1) (Bd.Nrm.same HNp.out.1.2 HNp.out.2.2 he2))
      have HC := Lib.hid (And.intro hPb hPb')
      have HQ := Lib.hid (And.intro (And.intro q0 (And.intro q1 (And.intro q2 (And.intro q3 (And.intro q4 q5))))) (And.intro q0' (And.intro q1' (And.intro q2' (And.intro q3' (And.intro q4' q5'))))))
      have HSz := Lib.hid (show B ≤ wr.heap.size by have := HI.out.size; have := HB.out; omega)
      have keepP : ∀ (z : World), Below B w z → ∀ x, P x → P x ∧ z.heap[x]? = w.heap[x]? := fun z hz x hx => ⟨hx, hz.block x (by have := HP.out x hx; have := HB.out; omega)⟩
      have HSb := Lib.hid (fun z (hz : Below B w z) => And.intro (sameBound_true (w := z) (HKp.out.a.keep (keepP z hz)) (HKq.out.a.keep (keepP z hz)) (fun x hx => Nat.lt_of_lt_of_le (HP.out x hx) hz.size) HE.out.1.1 HE.out.1.2.1 HE.out.1.2.2)
        (sameBound_true (w := z) (HKp.out.b.keep (keepP z hz)) (HKq.out.b.keep (keepP z hz)) (fun x hx => Nat.lt_of_lt_of_le (HP.out x hx) hz.size) HE.out.2.1 HE.out.2.2.1 HE.out.2.2.2))
      have cell1 : ∀ (z : World) (j : Nat), Below B w z → z.cell? ⟨b, j, none⟩ = w.cell? ⟨b, j, none⟩ := fun z j hz => World.cell?_of_block (a := ⟨b, j, none⟩) (hz.block b hbB)
      have cell2 : ∀ (z : World) (j : Nat), Below B w z → z.cell? ⟨b', j, none⟩ = w.cell? ⟨b', j, none⟩ := fun z j hz => World.cell?_of_block (a := ⟨b', j, none⟩) (hz.block b' hbB')
      have HC1 := Lib.hid cell1
      have HC2 := Lib.hid cell2
      obtain ⟨⟨p1i, p1g, p1A, p1n, p1c, p1l⟩, ⟨p2i, p2g, p2A, p2n, p2c, p2l⟩⟩ := p
      obtain ⟨⟨r1i, r1g, r1A, r1n, r1c, r1l⟩, ⟨r2i, r2g, r2A, r2n, r2c, r2l⟩⟩ := q
      simp only [Bd.v, Bd.vals] at HSb
      have hki : (k : Int) < (n' : Int) := by omega
      have hk0 : (0 : Int) ≤ (k : Int) := by omega
      clear hp hq q0 q1 q2 q3 q4 q5 q0' q1' q2' q3' q4' q5' he1 he2 keepP cell1 cell2 HKp HKq HNp hPb hPb'
      go_upto_region 6 with fail
      refine wp_region_H (by kernel_rfl) (fun z0 K0 hs0 => ?_)
      refine tkH 0 (v := ?tv0_1) K0 rfl (by kernel_rfl) ?tq0_1 (by kernel_rfl) (fun z5 hS => ?ty0_1) ?_
      case ty0_1 => go_simp; rfl
      case tq0_1 => exact fun _ _ _ h => h
      refine tkH 1 (v := ?tv1_2) K0 rfl (by kernel_rfl) ?tq1_2 (by kernel_rfl) (fun z5 hS => ?ty1_2) ?_
      case ty1_2 => go_simp; rfl
      case tq1_2 => exact fun _ _ _ h => h
      refine tkH 2 (v := ?tv2_3) K0 rfl (by kernel_rfl) ?tq2_3 (by kernel_rfl) (fun z5 hS => ?ty2_3) ?_
      case ty2_3 => go_simp; rfl
      case tq2_3 => exact fun _ _ _ h => h
      refine tkH 3 (v := ?tv3_4) K0 rfl (by kernel_rfl) ?tq3_4 (by kernel_rfl) (fun z5 hS => ?ty3_4) ?_
      case ty3_4 => go_simp; rfl
      case tq3_4 => exact fun _ _ _ h => h
      refine tkH 4 (v := ?tv4_5) K0 rfl (by kernel_rfl) ?tq4_5 (by kernel_rfl) (fun z5 hS => ?ty4_5) ?_
      case ty4_5 => have g0 := (HC1.out z5 (o + k * 6) (HI.out.trans (hS.mono HSz.out))).trans HQ.out.1.1; have g1 := (HC1.out z5 (o + k * 6 + 1) (HI.out.trans (hS.mono HSz.out))).trans HQ.out.1.2.1; have g2 := (HC1.out z5 (o + k * 6 + 2) (HI.out.trans (hS.mono HSz.out))).trans HQ.out.1.2.2.1; go_simp; rfl
      case tq4_5 => exact fun _ _ _ h => h
      refine tkH 5 (v := ?tv5_6) K0 rfl (by kernel_rfl) ?tq5_6 (by kernel_rfl) (fun z5 hS => ?ty5_6) ?_
      case ty5_6 => go_simp; rfl
      case tq5_6 => exact fun _ _ _ h => h
      refine tkH 6 (v := ?tv6_7) K0 rfl (by kernel_rfl) ?tq6_7 (by kernel_rfl) (fun z5 hS => ?ty6_7) ?_
      case ty6_7 => go_simp; rfl
      case tq6_7 => exact fun _ _ _ h => h
      refine tkH 7 (v := ?tv7_8) K0 rfl (by kernel_rfl) ?tq7_8 (by kernel_rfl) (fun z5 hS => ?ty7_8) ?_
      case ty7_8 => go_simp; rfl
      case tq7_8 => exact fun _ _ _ h => h
      refine tkH 8 (v := ?tv8_9) K0 rfl (by kernel_rfl) ?tq8_9 (by kernel_rfl) (fun z5 hS => ?ty8_9) ?_
      case ty8_9 => go_simp; rfl
      case tq8_9 => exact fun _ _ _ h => h
      refine tkH 9 (v := ?tv9_10) K0 rfl (by kernel_rfl) ?tq9_10 (by kernel_rfl) (fun z5 hS => ?ty9_10) ?_
      case ty9_10 => have g0 := (HC2.out z5 (o' + k * 6) (HI.out.trans (hS.mono HSz.out))).trans HQ.out.2.1; have g1 := (HC2.out z5 (o' + k * 6 + 1) (HI.out.trans (hS.mono HSz.out))).trans HQ.out.2.2.1; have g2 := (HC2.out z5 (o' + k * 6 + 2) (HI.out.trans (hS.mono HSz.out))).trans HQ.out.2.2.2.1; go_simp; rfl
      case tq9_10 => exact fun _ _ _ h => h
      refine wpAnyH_one (i := 10) (by kernel_rfl) rfl (by kernel_rfl) (fun K hK => ?_)
      go_simp
      (with_reducible refine (HSb.out _ (HI.out.trans (K0.mono HSz.out))).1.mono ?_)
      rintro e z1 ⟨rfl, hb1⟩
      have K1 := K0.trans (hb1.mono K0.size)
      refine hK.out _ _ K1 ?_
      refine tkH 11 (v := ?tv11_11) K1 rfl (by kernel_rfl) ?tq11_11 (by kernel_rfl) (fun z5 hS => ?ty11_11) ?_
      case ty11_11 => go_simp; rfl
      case tq11_11 => exact fun _ _ _ h => h
      refine tkH 12 (v := ?tv12_12) K1 rfl (by kernel_rfl) ?tq12_12 (by kernel_rfl) (fun z5 hS => ?ty12_12) ?_
      case ty12_12 => go_simp; rfl
      case tq12_12 => exact fun _ _ _ h => h
      refine tkH 13 (v := ?tv13_13) K1 rfl (by kernel_rfl) ?tq13_13 (by kernel_rfl) (fun z5 hS => ?ty13_13) ?_
      case ty13_13 => go_simp; rfl
      case tq13_13 => exact fun _ _ _ h => h
      refine tkH 14 (v := ?tv14_14) K1 rfl (by kernel_rfl) ?tq14_14 (by kernel_rfl) (fun z5 hS => ?ty14_14) ?_
      case ty14_14 => go_simp; rfl
      case tq14_14 => exact fun _ _ _ h => h
      refine tkH 15 (v := ?tv15_15) K1 rfl (by kernel_rfl) ?tq15_15 (by kernel_rfl) (fun z5 hS => ?ty15_15) ?_
      case ty15_15 => go_simp; rfl
      case tq15_15 => exact fun _ _ _ h => h
      refine tkH 16 (v := ?tv16_16) K1 rfl (by kernel_rfl) ?tq16_16 (by kernel_rfl) (fun z5 hS => ?ty16_16) ?_
      case ty16_16 => go_simp; rfl
      case tq16_16 => exact fun _ _ _ h => h
      refine tkH 17 (v := ?tv17_17) K1 rfl (by kernel_rfl) ?tq17_17 (by kernel_rfl) (fun z5 hS => ?ty17_17) ?_
      case ty17_17 => have g0 := (HC1.out z5 (o + k * 6 + 3) (HI.out.trans (hS.mono HSz.out))).trans HQ.out.1.2.2.2.1; have g1 := (HC1.out z5 (o + k * 6 + 4) (HI.out.trans (hS.mono HSz.out))).trans HQ.out.1.2.2.2.2.1; have g2 := (HC1.out z5 (o + k * 6 + 5) (HI.out.trans (hS.mono HSz.out))).trans HQ.out.1.2.2.2.2.2; go_simp; rfl
      case tq17_17 => exact fun _ _ _ h => h
      refine tkH 18 (v := ?tv18_18) K1 rfl (by kernel_rfl) ?tq18_18 (by kernel_rfl) (fun z5 hS => ?ty18_18) ?_
      case ty18_18 => go_simp; rfl
      case tq18_18 => exact fun _ _ _ h => h
      refine tkH 19 (v := ?tv19_19) K1 rfl (by kernel_rfl) ?tq19_19 (by kernel_rfl) (fun z5 hS => ?ty19_19) ?_
      case ty19_19 => go_simp; rfl
      case tq19_19 => exact fun _ _ _ h => h
      refine tkH 20 (v := ?tv20_20) K1 rfl (by kernel_rfl) ?tq20_20 (by kernel_rfl) (fun z5 hS => ?ty20_20) ?_
      case ty20_20 => go_simp; rfl
      case tq20_20 => exact fun _ _ _ h => h
      refine tkH 21 (v := ?tv21_21) K1 rfl (by kernel_rfl) ?tq21_21 (by kernel_rfl) (fun z5 hS => ?ty21_21) ?_
      case ty21_21 => go_simp; rfl
      case tq21_21 => exact fun _ _ _ h => h
      refine tkH 22 (v := ?tv22_22) K1 rfl (by kernel_rfl) ?tq22_22 (by kernel_rfl) (fun z5 hS => ?ty22_22) ?_
      case ty22_22 => have g0 := (HC2.out z5 (o' + k * 6 + 3) (HI.out.trans (hS.mono HSz.out))).trans HQ.out.2.2.2.2.1; have g1 := (HC2.out z5 (o' + k * 6 + 4) (HI.out.trans (hS.mono HSz.out))).trans HQ.out.2.2.2.2.2.1; have g2 := (HC2.out z5 (o' + k * 6 + 5) (HI.out.trans (hS.mono HSz.out))).trans HQ.out.2.2.2.2.2.2; go_simp; rfl
      case tq22_22 => exact fun _ _ _ h => h
      refine wpAnyH_one (i := 23) (by kernel_rfl) rfl (by kernel_rfl) (fun K hK => ?_)
      go_simp
      (with_reducible refine (HSb.out _ (HI.out.trans (K1.mono HSz.out))).2.mono ?_)
      rintro e z2 ⟨rfl, hb2⟩
      have K2 := K1.trans (hb2.mono K1.size)
      refine hK.out _ _ K2 ?_
      refine tkH 24 (v := ?tv24_23) K2 rfl (by kernel_rfl) ?tq24_23 (by kernel_rfl) (fun z5 hS => ?ty24_23) ?_
      case ty24_23 => go_simp; rfl
      case tq24_23 => exact fun _ _ _ h => h
      refine wpAnyH_one (i := 25) (by kernel_rfl) rfl (by kernel_rfl) (fun K hK => ?_)
      go_simp
      refine hK.out _ _ K2 ?_
      refine wpAnyH_end (by kernel_rfl) ?_ _
      have HB2 := Lib.hid (HI.out.trans (K2.mono HSz.out))
      clear K0 K1 K2 hb1 hb2 hs0
      go_wp2_with fail
      go_roundw
      case rel => exact ⟨k + 1, by omega, by go_num, HB2⟩
      case measure => simp [intOf]; omega
    · have hki : ¬ (k : Int) < (n' : Int) := by omega
      go_wp2_with fail
      go_ret
      exact ⟨rfl, HI.out⟩
/-! ### Same, of sets that are the same -/
theorem cmpB_zero {a b : Bd} (h1 : a.i = b.i) (h2 : a.z = b.z) : cmpB a b = 0 := by
  unfold cmpB
  split
  · rw [h2]; unfold cmpZ; simp
  · omega
set_option maxHeartbeats 1000000 in
theorem same1_true {x y : Rg} {P : Nat → Prop} {w : World} (hx : Rg.At w P x) (hy : Rg.At w P y) (hP : ∀ b, P b → b < w.heap.size) (tx : x.1.Nrm ∧ x.2.Nrm) (ty : y.1.Nrm ∧ y.2.Nrm) (he : edsR x = edsR y) :
    Calls Tryz.prog 57 #[rgV x, rgV y] w fun e w' => e = .returned (.bool true) ∧ Below w.heap.size w w' := by
  have HG := Lib.hid (((Below.refl w.heap.size w).alloc (Nat.le_refl _) (.cells (cells6 x).toArray 69)).alloc (by simp) (.cells (cells6 y).toArray 69))
  unfold edsR at he
  injection he with he1 he2
  obtain ⟨a1, a2, a3⟩ := Bd.Nrm.same tx.1 ty.1 he1
  obtain ⟨b1, b2, b3⟩ := Bd.Nrm.same tx.2 ty.2 he2
  have z1 : cmpB x.1 y.1 = 0 := cmpB_zero a1 (by unfold Bd.z; rw [a2, a3])
  have z2 : cmpB x.2 y.2 = 0 := cmpB_zero b1 (by unfold Bd.z; rw [b2, b3])
  have keepP : ∀ (w1 : World), Below w.heap.size w w1 → ∀ b, P b → P b ∧ w1.heap[b]? = w.heap[b]? := fun w1 h1 b hb => ⟨hb, h1.block b (hP b hb)⟩
  have HC1 := Lib.hid (fun w1 (h1 : Below w.heap.size w w1) => fcmp_any (hx.a.keep (keepP w1 h1)) (hy.a.keep (keepP w1 h1)) (fun b hb => Nat.lt_of_lt_of_le (hP b hb) h1.size) tx.1.tri ty.1.tri)
  have HC2 := Lib.hid (fun w1 (h1 : Below w.heap.size w w1) => fcmp_any (hx.b.keep (keepP w1 h1)) (hy.b.keep (keepP w1 h1)) (fun b hb => Nat.lt_of_lt_of_le (hP b hb) h1.size) tx.2.tri ty.2.tri)
  rw [z1] at HC1
  rw [z2] at HC2
  have e1 := RBox.new w x
  have e2 := RBox.new (w.alloc (.cells (cells6 x).toArray 69)) y
  have e3 := (RBox.below e1 (w' := (w.alloc (.cells (cells6 x).toArray 69)).alloc (.cells (cells6 y).toArray 69)) ((Below.refl _ _).alloc (Nat.le_refl _) _))
  rw [World.size_alloc] at e2
  obtain ⟨⟨xi, xg, xA, xn, xc, xl⟩, ⟨xi', xg', xA', xn', xc', xl'⟩⟩ := x
  obtain ⟨⟨yi, yg, yA, yn, yc, yl⟩, ⟨yi', yg', yA', yn', yc', yl'⟩⟩ := y
  have HX := Lib.hid (And.intro e3 e2)
  obtain ⟨x0, x1, x2, x3, x4, x5⟩ := e3.cells
  obtain ⟨y0, y1, y2, y3, y4, y5⟩ := e2.cells
  simp only [rgV, cells6_eq, Bd.v, Bd.vals, List.append, List.cons_append, List.nil_append, cells6] at *
  clear hx hy hP e1 e2 e3 tx ty he1 he2 a1 a2 a3 b1 b2 b3 z1 z2 keepP
  go_enter Tryz.func57, Tryz.ntmps57
  go_wp2_with (first
    | (go_at_call 38; (with_reducible refine (HC1.out _ HG.out).mono ?_); rintro e w1 ⟨rfl, hg1⟩; have HG1 := Lib.hid (HG.out.trans (hg1.bel.mono HG.out.size)); have HX1 := Lib.hid (And.intro (RBox.below HX.out.1 hg1.bel) (RBox.below HX.out.2 hg1.bel)); clear hg1 x0 x1 x2 x3 x4 x5 y0 y1 y2 y3 y4 y5; obtain ⟨x0, x1, x2, x3, x4, x5⟩ := HX1.out.1.cells; obtain ⟨y0, y1, y2, y3, y4, y5⟩ := HX1.out.2.cells)
    | (go_at_call 38; (with_reducible refine (HC2.out _ HG1.out).mono ?_); rintro e w2 ⟨rfl, hg2⟩))
  go_ret
  exact ⟨rfl, HG1.out.trans (hg2.bel.mono HG1.out.size)⟩
set_option maxRecDepth 100000 in
set_option maxHeartbeats 4000000 in
theorem equalFunc_true {w : World} {P : Nat → Prop} {A A' : Option Addr} {n n' c c' : Nat} {ps qs : List Rg} (h : SetP w P A n c ps) (h' : SetP w P A' n' c' qs) (hP : ∀ b, P b → b < w.heap.size) (hg : ∀ p ∈ ps, p.1.Nrm ∧ p.2.Nrm) (hg' : ∀ p ∈ qs, p.1.Nrm ∧ p.2.Nrm) (he : ps.map edsR = qs.map edsR) :
    Calls Tryz.prog 56 #[.slice A n c, .slice A' n' c', .func (.func 57) #[] #[]] w fun e w' => e = .returned (.bool true) ∧ Below w.heap.size w w' := by
  have hnn : n' = n := by
    have h1 := congrArg List.length he
    rw [List.length_map, List.length_map, h.row.len, h'.row.len] at h1
    exact h1.symm
  subst hnn
  have hen : ∀ args w, (callFunc 57 args).run Tryz.prog w = .ok (.enter 57 args) w := enters_of Tryz.func57 (by kernel_rfl) rfl
  have HS := Lib.hid (And.intro h h')
  have HP := Lib.hid hP
  have HNm := Lib.hid (And.intro hg hg')
  have HEq := Lib.hid he
  have HLn := Lib.hid (And.intro h.row.len h'.row.len)
  have hcap := h.row.cap
  have hmax := h.row.max
  unfold maxLen at hmax
  obtain ⟨B, hB⟩ : ∃ B, w.heap.size = B := ⟨_, rfl⟩
  have HB := Lib.hid hB
  rw [hB]
  clear h h' hP hg hg' he hB
  go_enter Tryz.func56, Tryz.ntmps56
  go_wp2_with fail
  go_loopw [17] (fun vi wr => ∃ k, k ≤ n' ∧ vi = .int .i64 (k : Nat) ∧ Hid (Below B w wr)) (fun vi _ => n' - (intOf vi).toNat)
  case atStart => exact ⟨0, Nat.zero_le _, rfl, Lib.hid (Below.refl _ _)⟩
  case round =>
    obtain ⟨k, hk, rfl, HI⟩ := hrel
    by_cases hkn : k < n'
    · skip
      obtain ⟨p, hp⟩ : ∃ p, ps[k]? = some p := ⟨ps[k]'(by have := HLn.out; omega), by simp⟩
      obtain ⟨q, hq⟩ : ∃ q, qs[k]? = some q := ⟨qs[k]'(by have := HLn.out; omega), by simp⟩
      obtain ⟨b, o, rfl, hPb, q0, q1, q2, q3, q4, q5⟩ := HS.out.1.row.at_ hp
      obtain ⟨b', o', rfl, hPb', q0', q1', q2', q3', q4', q5'⟩ := HS.out.2.row.at_ hq
      have hbB : b < B := by have := HP.out b hPb; have := HB.out; omega
      have hbB' : b' < B := by have := HP.out b' hPb'; have := HB.out; omega
      have HKp := Lib.hid (HS.out.1.kid p (List.mem_of_getElem? hp))
      have HKq := Lib.hid (HS.out.2.kid q (List.mem_of_getElem? hq))
      have HNp := Lib.hid (And.intro (HNm.out.1 p (List.mem_of_getElem? hp)) (HNm.out.2 q (List.mem_of_getElem? hq)))
      have hee : edsR p = edsR q := by
        have h1 := congrArg (fun l => l[k]?) HEq.out
        simp only [List.getElem?_map, hp, hq, Option.map_some] at h1
        exact Option.some.inj h1
      unfold edsR at hee
      injection hee with he1 he2
      have HE := Lib.hid (And.intro (Bd.Nrm.same HNp.out.1.1 HNp.out.2.1 he1) (Bd.Nrm.same HNp.out.1.2 HNp.out.2.2 he2))
      have HC := Lib.hid (And.intro hPb hPb')
      have HQ := Lib.hid (And.intro (And.intro q0 (And.intro q1 (And.intro q2 (And.intro q3 (And.intro q4 q5))))) (And.intro q0' (And.intro q1' (And.intro q2' (And.intro q3' (And.intro q4' q5'))))))
      have HSz := Lib.hid (show B ≤ wr.heap.size by have := HI.out.size; have := HB.out; omega)
      have keepP : ∀ (z : World), Below B w z → ∀ x, P x → P x ∧ z.heap[x]? = w.heap[x]? := fun z hz x hx => ⟨hx, hz.block x (by have := HP.out x hx; have := HB.out; omega)⟩
      have HSb := Lib.hid (fun z (hz : Below B w z) => same1_true (w := z) (HKp.out.keep (keepP z hz)) (HKq.out.keep (keepP z hz)) (fun x hx => Nat.lt_of_lt_of_le (HP.out x hx) hz.size) HNp.out.1 HNp.out.2 (by unfold edsR; rw [he1, he2]))
      have hblk := HI.out.block b hbB
      have hblk' := HI.out.block b' hbB'
      have i0 := (World.cell?_of_block (a := ⟨b, o + k * 6, none⟩) hblk).trans q0
      have j0 := (World.cell?_of_block (a := ⟨b', o' + k * 6, none⟩) hblk').trans q0'
      have i1 := (World.cell?_of_block (a := ⟨b, o + k * 6 + 1, none⟩) hblk).trans q1
      have j1 := (World.cell?_of_block (a := ⟨b', o' + k * 6 + 1, none⟩) hblk').trans q1'
      have i2 := (World.cell?_of_block (a := ⟨b, o + k * 6 + 2, none⟩) hblk).trans q2
      have j2 := (World.cell?_of_block (a := ⟨b', o' + k * 6 + 2, none⟩) hblk').trans q2'
      have i3 := (World.cell?_of_block (a := ⟨b, o + k * 6 + 3, none⟩) hblk).trans q3
      have j3 := (World.cell?_of_block (a := ⟨b', o' + k * 6 + 3, none⟩) hblk').trans q3'
      have i4 := (World.cell?_of_block (a := ⟨b, o + k * 6 + 4, none⟩) hblk).trans q4
      have j4 := (World.cell?_of_block (a := ⟨b', o' + k * 6 + 4, none⟩) hblk').trans q4'
      have i5 := (World.cell?_of_block (a := ⟨b, o + k * 6 + 5, none⟩) hblk).trans q5
      have j5 := (World.cell?_of_block (a := ⟨b', o' + k * 6 + 5, none⟩) hblk').trans q5'
      obtain ⟨⟨p1i, p1g, p1A, p1n, p1c, p1l⟩, ⟨p2i, p2g, p2A, p2n, p2c, p2l⟩⟩ := p
      obtain ⟨⟨r1i, r1g, r1A, r1n, r1c, r1l⟩, ⟨r2i, r2g, r2A, r2n, r2c, r2l⟩⟩ := q
      have hX := RBox.new wr (⟨p1i, p1g, p1A, p1n, p1c, p1l⟩, ⟨p2i, p2g, p2A, p2n, p2c, p2l⟩)
      have hY := RBox.new (wr.alloc (.cells (cells6 (⟨p1i, p1g, p1A, p1n, p1c, p1l⟩, ⟨p2i, p2g, p2A, p2n, p2c, p2l⟩)).toArray 69)) (⟨r1i, r1g, r1A, r1n, r1c, r1l⟩, ⟨r2i, r2g, r2A, r2n, r2c, r2l⟩)
      have hX2 := RBox.below hX (w' := (wr.alloc (.cells (cells6 (⟨p1i, p1g, p1A, p1n, p1c, p1l⟩, ⟨p2i, p2g, p2A, p2n, p2c, p2l⟩)).toArray 69)).alloc (.cells (cells6 (⟨r1i, r1g, r1A, r1n, r1c, r1l⟩, ⟨r2i, r2g, r2A, r2n, r2c, r2l⟩)).toArray 69)) ((Below.refl _ _).alloc (Nat.le_refl _) _)
      have HA := Lib.hid (show Below B w ((wr.alloc (.cells (cells6 (⟨p1i, p1g, p1A, p1n, p1c, p1l⟩, ⟨p2i, p2g, p2A, p2n, p2c, p2l⟩)).toArray 69)).alloc (.cells (cells6 (⟨r1i, r1g, r1A, r1n, r1c, r1l⟩, ⟨r2i, r2g, r2A, r2n, r2c, r2l⟩)).toArray 69)) from (HI.out.alloc HSz.out _).alloc (by have := HSz.out; simp; omega) _)
      have gb : b < wr.heap.size := by have := HSz.out; omega
      have gb' : b' < wr.heap.size := by have := HSz.out; omega
      rw [World.size_alloc] at hY
      simp only [cells6_eq, rgV, cells6, Bd.vals, List.cons_append, List.nil_append] at hX2 hY HA HSb i0 i1 i2 i3 i4 i5 j0 j1 j2 j3 j4 j5
      obtain ⟨x0, x1, x2, x3, x4, x5⟩ := hX2.cells
      obtain ⟨y0, y1, y2, y3, y4, y5⟩ := hY.cells
      simp only at x0 x1 x2 x3 x4 x5 y0 y1 y2 y3 y4 y5
      have hki : (k : Int) < (n' : Int) := by omega
      have hk0 : (0 : Int) ≤ (k : Int) := by omega
      clear hp hq q0 q1 q2 q3 q4 q5 q0' q1' q2' q3' q4' q5' he1 he2 keepP HKp HKq HNp hPb hPb' hblk hblk' hX hX2 hY
      go_wp2_with (go_at_fn 57; (with_reducible refine (HSb.out _ HA.out).mono ?_); rintro e w4 ⟨rfl, hb4⟩; have HB4 := Lib.hid (HA.out.trans (hb4.mono (by have := HA.out.size; have := HB.out; omega))); clear hb4)
      go_roundw
      case rel => exact ⟨k + 1, by omega, by go_num, HB4⟩
      case measure => simp [intOf]; omega
    · have hki : ¬ (k : Int) < (n' : Int) := by omega
      go_wp2_with fail
      go_ret
      exact ⟨rfl, HI.out⟩
set_option maxHeartbeats 1000000 in
theorem Same_true {w : World} {P : Nat → Prop} {A A' : Option Addr} {n c n' c' K M : Nat} {ps ps' : List Rg} (h : SIn w P A n c ps K M) (h' : SIn w P A' n' c' ps' K M) (hP : ∀ b, P b → b < w.heap.size) (hK : K ≤ 1000) (hM : M ≤ 128) (he : ∀ z, Hf.mem z (ps.map edsR) ↔ Hf.mem z (ps'.map edsR)) :
    Calls Tryz.prog 20 #[.slice A n c, .slice A' n' c'] w fun e w' => e = .returned (.tuple #[.bool true, .int .i64 0]) ∧ Below w.heap.size w w' := by
  have HT := Lib.hid (V2_take h h' hP hK hM)
  have HE := Lib.hid he
  clear h h' hP hK hM he
  go_enter Tryz.func20, Tryz.ntmps20
  go_wp2_with (go_at_call 35; (with_reducible refine HT.out.mono ?_); rintro e w1 ⟨rfl, hb1, hz1, ⟨A1, n1, c1, q1, v1, o1, m1⟩, A2, n2, c2, q2, v2, o2, m2⟩; have HB1 := Lib.hid (And.intro hb1 hz1); have HO := Lib.hid (And.intro o1 o2); have HMm := Lib.hid (And.intro m1 m2); have x1 := v1.cell.1; have x2 := v2.cell.1; clear hb1 hz1 o1 o2 m1 m2)
  have HQ := Lib.hid (equalFunc_true (w := w1) HO.out.1.set HO.out.2.set (fun b hb => hb.2) (fun p hp => (HO.out.1.gd p hp).1) (fun p hp => (HO.out.2.gd p hp).1) (HO.out.1.nf.uniq HO.out.2.nf (fun z => ((HMm.out.1 z).trans (HE.out z)).trans (HMm.out.2 z).symm)))
  go_wp2_with (go_at_call 56; (with_reducible refine HQ.out.mono ?_); rintro e w2 ⟨rfl, hb2⟩)
  exact bodyPost_ret (v := .tuple #[.bool true, .int .i64 0]) (by simp [results, Tryz.results20, go_sem]) rfl ⟨rfl, HB1.out.1.trans (hb2.mono (by have := HB1.out.2; omega))⟩
end Go.Proofs.YtpikjceodmepiaaGreatDoor

