import Derived.Test.YtpikjceodmepiaaGreatDoorYtb
import Derived.Test.YtpikjceodmepiaaGreatDoorYxb
set_option linter.unusedVariables false
set_option linter.unusedSimpArgs false
namespace Go.Proofs.YtpikjceodmepiaaGreatDoor
open Go.RowKit Hb Hf
set_option linter.unusedVariables false
set_option linter.unusedSimpArgs false
attribute [local go_sem ↓] Go.wp_at_zero Go.wp_at_succ
/-! ### short -/
/-- an end, its limbs cut -/
def Bd.cut (b : Bd) (A : Option Addr) (c : Nat) : Bd := ⟨b.i, b.g, A, min 60 b.n, c, b.l.take (min 60 b.n)⟩
theorem EBox.set1 {w : World} {g : Nat} {b : Bd} (h : EBox w g b) (A : Option Addr) (n c : Nat) (l : List Nat) : EBox (w.setCell ⟨g, 2, none⟩ (.slice A n c)) g ⟨b.i, b.g, A, n, c, l⟩ ∧ w.grownBy (w.setCell ⟨g, 2, none⟩ (.slice A n c)) (some g) := by
  refine ⟨?_, gb_setCell (gb_refl _ _) _ _⟩
  unfold EBox at h ⊢
  simp [World.setCell, Array.getElem?_modify, h, Bd.vals]
set_option maxRecDepth 100000 in
set_option maxHeartbeats 2000000 in
theorem short_any {b : Bd} {P : Nat → Prop} {w : World} (hb : b.At w P) (hP : ∀ x, P x → x < w.heap.size) (hz : b.A = none → b.c = 0) :
    Calls Tryz.prog 49 #[b.v] w fun e w' => ∃ A c, e = .returned (b.cut A c).v ∧ (b.cut A c).At w' (Fr w.heap.size w') ∧ Below w.heap.size w w' := by
  have HG := Lib.hid (((Below.refl w.heap.size w).alloc (Nat.le_refl _) (.cells b.vals.toArray 67)).alloc (by simp) (.cells (ib 0).vals.toArray 67))
  have e1 := EBox.new w b
  have e2 := EBox.new (w.alloc (.cells b.vals.toArray 67)) (ib 0)
  have e3 := (EBox.below e1 (w' := (w.alloc (.cells b.vals.toArray 67)).alloc (.cells (ib 0).vals.toArray 67)) ((Below.refl _ _).alloc (Nat.le_refl _) _))
  rw [World.size_alloc] at e2
  have hcap := hb.lim.cap
  have hmx := hb.lim.max
  unfold maxLen at hmx
  obtain ⟨m, hm⟩ : ∃ m, min 60 b.n = m := ⟨_, rfl⟩
  have hmn : m ≤ b.n := by omega
  have HT := Lib.hid (fun (w1 : World) (h1 : Below w.heap.size w w1) => ((hb.lim.sl hP).take (k := m) hmn).below (C := w.heap.size) h1 (Nat.le_refl _))
  have HZ := Lib.hid hz
  have HR := Lib.hid (And.intro hb.r1 hb.r2)
  have HD := Lib.hid (hb.lim.dig.take m)
  have HLl := Lib.hid (show (b.l.take m).length = m by rw [List.length_take, hb.lim.len]; omega)
  unfold Bd.cut
  rw [hm]
  have hmi : min (60 : Int) (b.n : Int) = (m : Int) := by omega
  obtain ⟨bi, bg, bA, bn, bc, bl⟩ := b
  simp only at hmi hmn hcap hmx HT HZ HR HD HLl
  have HE := Lib.hid (And.intro e3 e2)
  have hm0 : (0 : Int) ≤ (m : Int) := by omega
  have hmnI : (m : Int) ≤ (bn : Int) := by omega
  have hmc : (m : Int) ≤ (bc : Int) := by omega
  have hm9 : m ≤ 60 := by omega
  simp only [Bd.v, Bd.vals, ib] at *
  obtain ⟨x0, x1, x2⟩ := HE.out.1.cells
  obtain ⟨f0, f1, f2⟩ := HE.out.1.frozens
  clear hb hP hz e1 e2 e3 hm
  have hW : (((w.alloc (.cells #[.int .i64 bi, .bool bg, .slice bA bn bc] 67)).alloc (.cells #[.int .i64 0, .bool false, .slice none 0 0] 67)).alloc (.cells #[] 101)).heap.size = w.heap.size + 1 + 1 + 1 := by simp
  have ho0 : OwnU (((w.alloc (.cells #[.int .i64 bi, .bool bg, .slice bA bn bc] 67)).alloc (.cells #[.int .i64 0, .bool false, .slice none 0 0] 67)).alloc (.cells #[] 101)) (w.heap.size + 1 + 1) (some ⟨w.heap.size + 1 + 1, 0, none⟩) 0 0 (u32s []) := by
    have := Own.of_block (t := 101) (xs := []) (g := w.heap.size + 1 + 1) (B := w.heap.size + 1 + 1) (w := (((w.alloc (.cells #[.int .i64 bi, .bool bg, .slice bA bn bc] 67)).alloc (.cells #[.int .i64 0, .bool false, .slice none 0 0] 67)).alloc (.cells #[] 101))) (by
      have := heap_alloc_new ((w.alloc (.cells #[.int .i64 bi, .bool bg, .slice bA bn bc] 67)).alloc (.cells #[.int .i64 0, .bool false, .slice none 0 0] 67)) (.cells #[] 101)
      simpa using this) (Nat.le_refl _) (by simp [maxLen])
    exact this
  have HO0 := Lib.hid (And.intro ho0 (HT.out _ (HG.out.alloc (by simp; omega) (.cells #[] 101))))
  have HBa := Lib.hid (show Below (w.heap.size + 1 + 1) ((w.alloc (.cells #[.int .i64 bi, .bool bg, .slice bA bn bc] 67)).alloc (.cells #[.int .i64 0, .bool false, .slice none 0 0] 67)) (((w.alloc (.cells #[.int .i64 bi, .bool bg, .slice bA bn bc] 67)).alloc (.cells #[.int .i64 0, .bool false, .slice none 0 0] 67)).alloc (.cells #[] 101)) from (Below.refl _ _).alloc (by simp) _)
  clear ho0
  go_enter Tryz.func49, Tryz.ntmps49
  go_wp2_with (at_builtin; refine wpList_plain rfl fun K hK => ?_; refine wp_append_rd (base := w.heap.size + 1 + 1) (l0 := []) (l := bl.take m) (A0 := some ⟨w.heap.size + 1 + 1, 0, none⟩) (n0 := 0) (c0 := 0) _ _ rfl (by rfl) HO0.out.1 (by rfl) HZ.out HO0.out.2 (by omega) (by rw [hW]; omega) ?_; intro A' c' w4 ho4 hb4; rw [Nat.zero_add] at ho4 ⊢; refine hK _ _ ?_; have HB4 := Lib.hid (HBa.out.trans hb4); have HO4 := Lib.hid (show OwnU w4 (w.heap.size + 1 + 1) A' m c' (u32s (bl.take m)) from ho4); clear ho4 hb4; have HX4 := Lib.hid (show EBox w4 w.heap.size ⟨bi, bg, bA, bn, bc, bl⟩ from (HB4.out.block _ (by omega)).trans HE.out.1); have HY4 := Lib.hid (show EBox w4 (w.heap.size + 1) ⟨0, false, none, 0, 0, []⟩ from (HB4.out.block _ (by omega)).trans HE.out.2); clear x0 x1 x2 f0 f1 f2; obtain ⟨x0, x1, x2⟩ := HX4.out.cells; obtain ⟨f0, f1, f2⟩ := HX4.out.frozens; obtain ⟨y0, y1, y2⟩ := HY4.out.cells; obtain ⟨k0, k1, k2⟩ := HY4.out.frozens)
  have S1 := HX4.out.set1 A' m c' (bl.take m)
  have S2 := (HY4.out.gro S1.2 (by omega)).set3 (⟨bi, bg, A', m, c', bl.take m⟩ : Bd)
  have HSS := Lib.hid (And.intro S1.2 S2)
  have HAt := Lib.hid (show Bd.At w4 (Fr (w.heap.size + 1 + 1) w4) ⟨bi, bg, A', m, c', bl.take m⟩ from ⟨LimP.of_own HO4.out HD.out, HR.out.1, HR.out.2⟩)
  have HG4 := Lib.hid (HG.out.trans (HB4.out.mono (by omega)))
  have hz4 := HG4.out.size
  have hz5 := HB4.out.size
  simp at hz5
  clear S1 S2 x0 x1 x2 f0 f1 f2 y0 y1 y2 k0 k1 k2
  dsimp only at HSS
  generalize hw5 : (w4.setCell ⟨w.heap.size, 2, none⟩ (.slice A' m c')) = w5 at *
  have h5 := HSS.out.1.size
  have h6 := HSS.out.2.2.size
  generalize (((w5.setCell ⟨w.heap.size + 1, 0, none⟩ (.int .i64 bi)).setCell ⟨w.heap.size + 1, 1, none⟩ (.bool bg)).setCell ⟨w.heap.size + 1, 2, none⟩ (.slice A' m c')) = w6 at *
  obtain ⟨r0, r1, r2⟩ := HSS.out.2.1.cells
  simp only at r0 r1 r2
  refine bodyPost_ret (v := .agg #[.int .i64 bi, .bool bg, .slice A' m c']) (by simp [results, Tryz.results49, go_sem, r0, r1, r2]) rfl ⟨A', c', rfl, HAt.out.keep fun x hx => ⟨⟨by have := hx.1; omega, by have := hx.2; omega⟩, (HSS.out.2.2.block x (by have := hx.2; omega) (fun e => by injection e with e; have := hx.1; omega)).trans (HSS.out.1.block x hx.2 (fun e => by injection e with e; have := hx.1; omega))⟩, (HG4.out.grown HSS.out.1 (by omega) (fun j e => by injection e with e; omega)).grown HSS.out.2.2 (by omega) (fun j e => by injection e with e; omega)⟩
/-! ### few -/
theorem wp_region_HB {P : Program} {ops : Array Oper} {Q : Exit → Act → World → Prop} {id : Nat} {a : Act} {w : World} (B : Nat) (hm : P.follows .mixedOrders = true)
    (h : ∀ z, Below w.heap.size w z → z.heap.size = w.heap.size → wpAnyH P .any ops Q (fun z => Below B w z) ops.size (Array.replicate ops.size false) a z) : (Code.region id ops true).wp P Q a w :=
  wp_region_any hm (wpAny_of_held _ _ _ _ (h w.drew (Below.refl _ _).drew rfl))
theorem step_app1R {o : Oper} {a : Act} {K : Act → World → Prop} {Q : Exit → Act → World → Prop} {wr w3 : World} {B n c : Nat} {A : Option Addr} {ps : List Rg} {q : Rg}
    (hgd : o.guard = none) (s x : Operand) (ho : o.op = .call { callee := .builtin .append, args := #[s, x], argTypes := #[22, 22] })
    (hs : a.eval s = .slice A n c) (hx : a.eval x = .slice (some ⟨w3.heap.size, 0, none⟩) 1 1)
    (hrow : RRow wr B (Fr B wr) A n c ps) (hB : B ≤ wr.heap.size) (hw : Below wr.heap.size wr w3) (hf : Rg.At w3 (fun b => (B ≤ b ∧ b < w3.heap.size) ∧ (Value.slice A n c).ownBlock ≠ some b) q) (hm : n + 1 ≤ maxRg)
    (hh : ∀ A' c' w', RRow w' B (Fr B w') A' (n + 1) c' (ps ++ [q]) → Below B wr w' → wr.heap.size ≤ w'.heap.size → K (a.put o.dst (.slice A' (n + 1) c')) w') :
    Oper.wp Tryz.prog o a (w3.alloc (.cells (cells6 q).toArray 69)) K Q := by
  have hb6 : Below w3.heap.size w3 (w3.alloc (.cells (cells6 q).toArray 69)) := (Below.refl _ _).alloc (Nat.le_refl _) _
  have hbw := hw.trans (hb6.mono hw.size)
  have hrow6 := RRow.fr hrow hbw
  have hnews := heap_alloc_new w3 (.cells (cells6 q).toArray 69)
  have hnw : ∀ j u, (fl6 [q])[j]? = some u → (w3.alloc (.cells (cells6 q).toArray 69)).cell? ((⟨w3.heap.size, 0, none⟩ : Addr).add j) = some u := fun j u hj => by
    rw [add_zero', cell_of_row _ w3.heap.size j _ _ (0, 0) hnews, ← hj]
    simp [fl6]
  have hkid : Rg.At (w3.alloc (.cells (cells6 q).toArray 69)) (fun b' => (B ≤ b' ∧ b' < (w3.alloc (.cells (cells6 q).toArray 69)).heap.size) ∧ (Value.slice A n c).ownBlock ≠ some b') q := hf.keep (fun b' hb => ⟨⟨⟨hb.1.1, Nat.lt_of_lt_of_le hb.1.2 hb6.size⟩, hb.2⟩, hb6.block b' hb.1.2⟩)
  generalize w3.alloc (.cells (cells6 q).toArray 69) = w6 at *
  refine step_append_R hgd s x ho [q] hs hrow6 (fun b hb => hb.2) ⟨w3.heap.size, 0, none⟩ 1 1 hx rfl (fun y hy => by rw [List.mem_singleton.1 hy]; exact hkid) hnw hm (by have := hbw.size; omega) ?_
  intro A' c' w' hr hb hg
  exact hh A' c' w' (hr.wide (fun b hb2 => ⟨hb2.1, Nat.lt_of_lt_of_le hb2.2 hg.size⟩)) ((hbw.mono hB).trans hb) (Nat.le_trans hbw.size hg.size)
def ZnR (ps : List Rg) : Prop := ∀ p ∈ ps, (p.1.A = none → p.1.c = 0) ∧ (p.2.A = none → p.2.c = 0)
def FewPostB (B : Nat) (w : World) (e : Ending) (w' : World) : Prop := ∃ A m c qs, e = .returned (.slice A m c) ∧ SIn w' (Fr B w') A m c qs 40 60 ∧ Below B w w'
def FewPost (w : World) (e : Ending) (w' : World) : Prop := FewPostB w.heap.size w e w'
set_option maxRecDepth 100000 in
set_option maxHeartbeats 4000000 in
theorem few_any {w : World} {P : Nat → Prop} {A : Option Addr} {n c : Nat} {ps : List Rg} (h : SetP w P A n c ps) (hP : ∀ b, P b → b < w.heap.size) (hz : ZnR ps) :
    Calls Tryz.prog 17 #[.slice A n c] w (FewPost w) := by
  have HS := Lib.hid h
  have HP := Lib.hid hP
  have HZ := Lib.hid hz
  have HLn := Lib.hid h.row.len
  have hcap := h.row.cap
  have hmax := h.row.max
  unfold maxLen at hmax
  obtain ⟨B, hB⟩ : ∃ B, w.heap.size = B := ⟨_, rfl⟩
  have HB := Lib.hid hB
  have HN0 := Lib.hid (show Below B w w ∧ B ≤ w.heap.size ∧ RRow w B (Fr B w) none 0 0 [] ∧ ∀ q ∈ ([] : List Rg), q.1.n ≤ 60 ∧ q.2.n ≤ 60 from ⟨Below.refl _ _, by omega, RRow.nil _ _ _, by simp⟩)
  unfold FewPost
  rw [hB]
  clear h hP hz hB
  go_enter Tryz.func17, Tryz.ntmps17
  go_wp2_with fail
  go_loopw [3, 4] (fun vo vi wr => ∃ k A' c' qs, k ≤ n ∧ k ≤ 40 ∧ vi = .int .i64 (k : Nat) ∧ vo = .slice A' k c' ∧ Hid (Below B w wr ∧ B ≤ wr.heap.size ∧ RRow wr B (Fr B wr) A' k c' qs ∧ ∀ q ∈ qs, q.1.n ≤ 60 ∧ q.2.n ≤ 60)) (fun _ vi _ => 40 - (intOf vi).toNat)
  case atStart => exact ⟨0, none, 0, [], Nat.zero_le _, by omega, rfl, rfl, HN0⟩
  case round =>
    obtain ⟨k, A2, c2, qs, hk, hk40, rfl, rfl, HI⟩ := hrel
    clear HN0
    have hend : n ≤ k ∨ 40 ≤ k ∨ (k < n ∧ k < 40) := by omega
    by_cases hgo : k < n ∧ k < 40
    · obtain ⟨hkn, hk4⟩ := hgo
      obtain ⟨p, hp⟩ : ∃ p, ps[k]? = some p := ⟨ps[k]'(by have := HLn.out; omega), by simp⟩
      obtain ⟨b, o, rfl, hPb, q0, q1, q2, q3, q4, q5⟩ := HS.out.row.at_ hp
      have hbB : b < B := by have := HP.out b hPb; have := HB.out; omega
      have HKid := Lib.hid (HS.out.kid p (List.mem_of_getElem? hp))
      have HZp := Lib.hid (HZ.out p (List.mem_of_getElem? hp))
      have HQ := Lib.hid (And.intro q0 (And.intro q1 (And.intro q2 (And.intro q3 (And.intro q4 q5)))))
      have keepP : ∀ (z : World), Below B w z → ∀ x, P x → P x ∧ z.heap[x]? = w.heap[x]? := fun z hz x hx => ⟨hx, hz.block x (by have := HP.out x hx; have := HB.out; omega)⟩
      have HSh := Lib.hid (fun z (hz : Below B w z) => And.intro (short_any (w := z) (HKid.out.a.keep (keepP z hz)) (fun x hx => Nat.lt_of_lt_of_le (HP.out x hx) hz.size) HZp.out.1) (short_any (w := z) (HKid.out.b.keep (keepP z hz)) (fun x hx => Nat.lt_of_lt_of_le (HP.out x hx) hz.size) HZp.out.2))
      have HC1 := Lib.hid (fun (z : World) (j : Nat) (hz : Below B w z) => (World.cell?_of_block (a := ⟨b, j, none⟩) (hz.block b hbB) : z.cell? ⟨b, j, none⟩ = w.cell? ⟨b, j, none⟩))
      obtain ⟨⟨p1i, p1g, p1A, p1n, p1c, p1l⟩, ⟨p2i, p2g, p2A, p2n, p2c, p2l⟩⟩ := p
      unfold Bd.cut at HSh
      simp only [Bd.v, Bd.vals] at HSh
      have hki : (k : Int) < (n : Int) := by omega
      have hk4i : (k : Int) < 40 := by omega
      have hk0 : (0 : Int) ≤ (k : Int) := by omega
      clear hp q0 q1 q2 q3 q4 q5 keepP HKid HZp hPb hend
      go_upto_region 5 with fail
      refine wp_region_HB B (by kernel_rfl) (fun z0 K0 hs0 => ?_)
      have S0 : Below B wr z0 := K0.mono HI.out.2.1
      refine tkH 0 (v := ?tv0_1) S0 rfl (by kernel_rfl) ?tq0_1 (by kernel_rfl) (fun z5 hS => ?ty0_1) ?_
      case ty0_1 => go_simp; rfl
      case tq0_1 => exact fun _ _ _ h => h
      refine tkH 1 (v := ?tv1_2) S0 rfl (by kernel_rfl) ?tq1_2 (by kernel_rfl) (fun z5 hS => ?ty1_2) ?_
      case ty1_2 => go_simp; rfl
      case tq1_2 => exact fun _ _ _ h => h
      refine tkH 2 (v := ?tv2_3) S0 rfl (by kernel_rfl) ?tq2_3 (by kernel_rfl) (fun z5 hS => ?ty2_3) ?_
      case ty2_3 => go_simp; rfl
      case tq2_3 => exact fun _ _ _ h => h
      refine tkH 3 (v := ?tv3_4) S0 rfl (by kernel_rfl) ?tq3_4 (by kernel_rfl) (fun z5 hS => ?ty3_4) ?_
      case ty3_4 => go_simp; rfl
      case tq3_4 => exact fun _ _ _ h => h
      refine tkH 4 (v := ?tv4_5) S0 rfl (by kernel_rfl) ?tq4_5 (by kernel_rfl) (fun z5 hS => ?ty4_5) ?_
      case ty4_5 => go_simp; rfl
      case tq4_5 => exact fun _ _ _ h => h
      refine tkH 5 (v := ?tv5_6) S0 rfl (by kernel_rfl) ?tq5_6 (by kernel_rfl) (fun z5 hS => ?ty5_6) ?_
      case ty5_6 => have g0 := (HC1.out z5 (o + k * 6) (HI.out.1.trans hS)).trans HQ.out.1; have g1 := (HC1.out z5 (o + k * 6 + 1) (HI.out.1.trans hS)).trans HQ.out.2.1; have g2 := (HC1.out z5 (o + k * 6 + 2) (HI.out.1.trans hS)).trans HQ.out.2.2.1; go_simp; rfl
      case tq5_6 => exact fun _ _ _ h => h
      refine tkH 7 (v := ?tv7_7) S0 rfl (by kernel_rfl) ?tq7_7 (by kernel_rfl) (fun z5 hS => ?ty7_7) ?_
      case ty7_7 => go_simp; rfl
      case tq7_7 => exact fun _ _ _ h => h
      refine tkH 8 (v := ?tv8_8) S0 rfl (by kernel_rfl) ?tq8_8 (by kernel_rfl) (fun z5 hS => ?ty8_8) ?_
      case ty8_8 => go_simp; rfl
      case tq8_8 => exact fun _ _ _ h => h
      refine tkH 9 (v := ?tv9_9) S0 rfl (by kernel_rfl) ?tq9_9 (by kernel_rfl) (fun z5 hS => ?ty9_9) ?_
      case ty9_9 => go_simp; rfl
      case tq9_9 => exact fun _ _ _ h => h
      refine tkH 10 (v := ?tv10_10) S0 rfl (by kernel_rfl) ?tq10_10 (by kernel_rfl) (fun z5 hS => ?ty10_10) ?_
      case ty10_10 => go_simp; rfl
      case tq10_10 => exact fun _ _ _ h => h
      refine tkH 11 (v := ?tv11_11) S0 rfl (by kernel_rfl) ?tq11_11 (by kernel_rfl) (fun z5 hS => ?ty11_11) ?_
      case ty11_11 => have g0 := (HC1.out z5 (o + k * 6 + 3) (HI.out.1.trans hS)).trans HQ.out.2.2.2.1; have g1 := (HC1.out z5 (o + k * 6 + 4) (HI.out.1.trans hS)).trans HQ.out.2.2.2.2.1; have g2 := (HC1.out z5 (o + k * 6 + 5) (HI.out.1.trans hS)).trans HQ.out.2.2.2.2.2; go_simp; rfl
      case tq11_11 => exact fun _ _ _ h => h
      refine wpAnyH_one (i := 6) (by kernel_rfl) rfl (by kernel_rfl) (fun K hK => ?_)
      go_simp
      (with_reducible refine (HSh.out _ (HI.out.1.trans S0)).1.mono ?_)
      rintro e z1 ⟨A3, c3, rfl, hat, hb1⟩
      have K1 := K0.trans (hb1.mono K0.size)
      have S1 : Below B wr z1 := K1.mono HI.out.2.1
      refine hK.out _ _ S1 ?_
      refine wpAnyH_one (i := 12) (by kernel_rfl) rfl (by kernel_rfl) (fun K hK => ?_)
      go_simp
      (with_reducible refine (HSh.out _ (HI.out.1.trans S1)).2.mono ?_)
      rintro e z2 ⟨A4, c4, rfl, hbt, hb2⟩
      have K2 := K1.trans (hb2.mono K1.size)
      have S2 : Below B wr z2 := K2.mono HI.out.2.1
      refine hK.out _ _ S2 ?_
      refine tkH 13 (v := ?tv13_12) S2 rfl (by kernel_rfl) ?tq13_12 (by kernel_rfl) (fun z5 hS => ?ty13_12) ?_
      case ty13_12 => go_simp; rfl
      case tq13_12 => exact fun _ _ _ h => h
      refine wpAnyH_one (i := 14) (by kernel_rfl) rfl (by kernel_rfl) (fun K hK => ?_)
      go_simp
      have S3 : Below B wr (z2.alloc (.cells #[.int .i64 p1i, .bool p1g, .slice A3 (min 60 p1n) c3, .int .i64 p2i, .bool p2g, .slice A4 (min 60 p2n) c4] 69)) := S2.alloc (by have := S2.size; have := HI.out.2.1; omega) _
      refine hK.out _ _ S3 ?_
      refine wpAnyH_one (i := 15) (by kernel_rfl) rfl (by kernel_rfl) (fun K hK => ?_)
      have hsz0 := K0.size
      have hsz1 := hb1.size
      have hsz2 := hb2.size
      have HAt := Lib.hid (show Rg.At z2 (fun x => wr.heap.size ≤ x ∧ x < z2.heap.size) ((⟨p1i, p1g, A3, min 60 p1n, c3, p1l.take (min 60 p1n)⟩ : Bd), (⟨p2i, p2g, A4, min 60 p2n, c4, p2l.take (min 60 p2n)⟩ : Bd)) from ⟨hat.keep (fun x hx => ⟨⟨by have := hx.1; omega, by have := hx.2; omega⟩, hb2.block x hx.2⟩), hbt.wide (fun x hx => ⟨by have := hx.1; omega, hx.2⟩)⟩)
      refine step_app1R (q := ((⟨p1i, p1g, A3, min 60 p1n, c3, p1l.take (min 60 p1n)⟩ : Bd), (⟨p2i, p2g, A4, min 60 p2n, c4, p2l.take (min 60 p2n)⟩ : Bd))) rfl _ _ rfl (by rfl) (by rfl) HI.out.2.2.1 HI.out.2.1 K2 (HI.out.2.2.1.apart HI.out.2.1 (Nat.le_refl _) HAt.out) (by unfold maxRg; omega) ?_
      intro A6 c6 w6 hr6 hb6 hs6
      have HR6 := Lib.hid (And.intro hr6 (And.intro hb6 hs6))
      clear hr6 hb6 hs6 hat hbt hb1 hb2 K1 K2 S0 S1 S2 S3 hs0 K0 hsz0 hsz1 hsz2
      refine hK.out _ _ HR6.out.2.1 ?_
      refine wpAnyH_one (i := 16) (by kernel_rfl) rfl (by kernel_rfl) (fun K hK => ?_)
      go_simp
      refine hK.out _ _ HR6.out.2.1 ?_
      refine wpAnyH_end (by kernel_rfl) ?_ _
      have HG6 := Lib.hid (show ∀ q ∈ qs ++ [((⟨p1i, p1g, A3, min 60 p1n, c3, p1l.take (min 60 p1n)⟩ : Bd), (⟨p2i, p2g, A4, min 60 p2n, c4, p2l.take (min 60 p2n)⟩ : Bd))], q.1.n ≤ 60 ∧ q.2.n ≤ 60 from fun q hq => by
        rcases List.mem_append.1 hq with h1 | h1
        · exact HI.out.2.2.2 q h1
        · rw [List.mem_singleton.1 h1]; simp only; omega)
      go_wp2_with fail
      go_roundw
      case rel => exact ⟨k + 1, A6, c6, _, by omega, by omega, by go_num, by go_num, Lib.hid ⟨HI.out.1.trans HR6.out.2.1, Nat.le_trans HI.out.2.1 HR6.out.2.2, HR6.out.1, HG6.out⟩⟩
      case measure => simp [intOf]; omega
    · have hki : ¬ (k : Int) < (n : Int) ∨ ((k : Int) < (n : Int) ∧ ¬ (k : Int) < 40) := by omega
      have HF := Lib.hid (show SIn wr (Fr B wr) A2 k c2 qs 40 60 from ⟨HI.out.2.2.1.set (fun b h1 h2 => ⟨h1, h2⟩), fun q hq => ⟨fun _ => by have := HI.out.2.2.2 q hq; omega, fun _ => by have := HI.out.2.2.2 q hq; omega⟩, hk40, fun r hr => by
        obtain ⟨q, hq, rfl⟩ := List.mem_map.1 hr
        have h1 := HI.out.2.2.2 q hq
        have h2 := HI.out.2.2.1.kid q hq
        exact ⟨szE_raw h2.a (fun _ => h1.1), szE_raw h2.b (fun _ => h1.2)⟩⟩)
      have HBx := Lib.hid HI.out.1
      clear hend
      rcases hki with hki | ⟨hki, hk4⟩
      all_goals
        go_wp2_with fail
        go_ret
        exact ⟨_, _, _, qs, rfl, HF.out, HBx.out⟩
end Go.Proofs.YtpikjceodmepiaaGreatDoor

