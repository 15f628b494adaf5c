import Derived.Test.YtpikjceodmepiaaAlm
import Derived.Test.YtpikjceodmepiaaAjm
import Derived.Test.YtpikjceodmepiaaZam
set_option linter.unusedVariables false
set_option linter.unusedSimpArgs false
namespace Go.Proofs.Ytpikjceodmepiaa
open Go.RowKit Hb Hf
set_option linter.unusedVariables false
set_option linter.unusedSimpArgs false
attribute [local go_sem ↓] Go.wp_at_zero Go.wp_at_succ
/-! ### SameRanges of like parts -/
def SmB (a b : Bd) : Prop := a.i = b.i ∧ a.g = b.g ∧ a.l = b.l
set_option maxRecDepth 100000 in
set_option maxHeartbeats 4000000 in
theorem sameRanges_parts {w : World} {P : Nat → Prop} {A A' : Option Addr} {n n' c c' : Nat} {ps qs : List Rg} (h : SetP w P A n c ps) (h' : SetP w P A' n' c' qs) (hP : ∀ b, P b → b < w.heap.size) (hnn : n' = n) (hs : ∀ (k : Nat) (p q : Rg), ps[k]? = some p → qs[k]? = some q → SmB p.1 q.1 ∧ SmB p.2 q.2) :
    Calls Try.prog 17 #[.slice A n c, .slice A' n' c'] w fun e w' => e = .returned (.bool true) ∧ Below w.heap.size w w' := by
  subst hnn
  have HS := Lib.hid (And.intro h h')
  have HP := Lib.hid hP
  have HSm := Lib.hid hs
  have HLn := Lib.hid (And.intro h.row.len h'.row.len)
  have hcap := h.row.cap
  have hmax := h.row.max
  unfold maxLen at hmax
  obtain ⟨B, hB⟩ : ∃ B, w.heap.size = B := ⟨_, rfl⟩
  have HB := Lib.hid hB
  rw [hB]
  clear h h' hP hs hB
  go_enter Try.func17, Try.ntmps17
  go_wp2_with fail
  go_loopw [5] (fun vi wr => ∃ k, k ≤ n' ∧ vi = .int .i64 (k : Nat) ∧ Hid (Below B w wr)) (fun vi _ => n' - (intOf vi).toNat)
  case atStart => exact ⟨0, Nat.zero_le _, rfl, Lib.hid (Below.refl _ _)⟩
  case round =>
    obtain ⟨k, hk, rfl, HI⟩ := hrel
    by_cases hkn : k < n'
    · skip
      obtain ⟨p, hp⟩ : ∃ p, ps[k]? = some p := ⟨ps[k]'(by have := HLn.out; omega), by simp⟩
      obtain ⟨q, hq⟩ : ∃ q, qs[k]? = some q := ⟨qs[k]'(by have := HLn.out; omega), by simp⟩
      obtain ⟨b, o, rfl, hPb, q0, q1, q2, q3, q4, q5⟩ := HS.out.1.row.at_ hp
      obtain ⟨b', o', rfl, hPb', q0', q1', q2', q3', q4', q5'⟩ := HS.out.2.row.at_ hq
      have hbB : b < B := by have := HP.out b hPb; have := HB.out; omega
      have hbB' : b' < B := by have := HP.out b' hPb'; have := HB.out; omega
      have HKp := Lib.hid (HS.out.1.kid p (List.mem_of_getElem? hp))
      have HKq := Lib.hid (HS.out.2.kid q (List.mem_of_getElem? hq))
      have HE := Lib.hid (HSm.out k p q hp hq)
      have HC := Lib.hid (And.intro hPb hPb')
      have HQ := Lib.hid (And.intro (And.intro q0 (And.intro q1 (And.intro q2 (And.intro q3 (And.intro q4 q5))))) (And.intro q0' (And.intro q1' (And.intro q2' (And.intro q3' (And.intro q4' q5'))))))
      have HSz := Lib.hid (show B ≤ wr.heap.size by have := HI.out.size; have := HB.out; omega)
      have keepP : ∀ (z : World), Below B w z → ∀ x, P x → P x ∧ z.heap[x]? = w.heap[x]? := fun z hz x hx => ⟨hx, hz.block x (by have := HP.out x hx; have := HB.out; omega)⟩
      have HSb := Lib.hid (fun z (hz : Below B w z) => And.intro (sameBound_true (w := z) (HKp.out.a.keep (keepP z hz)) (HKq.out.a.keep (keepP z hz)) (fun x hx => Nat.lt_of_lt_of_le (HP.out x hx) hz.size) HE.out.1.1 HE.out.1.2.1 HE.out.1.2.2)
        (sameBound_true (w := z) (HKp.out.b.keep (keepP z hz)) (HKq.out.b.keep (keepP z hz)) (fun x hx => Nat.lt_of_lt_of_le (HP.out x hx) hz.size) HE.out.2.1 HE.out.2.2.1 HE.out.2.2.2))
      have cell1 : ∀ (z : World) (j : Nat), Below B w z → z.cell? ⟨b, j, none⟩ = w.cell? ⟨b, j, none⟩ := fun z j hz => World.cell?_of_block (a := ⟨b, j, none⟩) (hz.block b hbB)
      have cell2 : ∀ (z : World) (j : Nat), Below B w z → z.cell? ⟨b', j, none⟩ = w.cell? ⟨b', j, none⟩ := fun z j hz => World.cell?_of_block (a := ⟨b', j, none⟩) (hz.block b' hbB')
      have HC1 := Lib.hid cell1
      have HC2 := Lib.hid cell2
      obtain ⟨⟨p1i, p1g, p1A, p1n, p1c, p1l⟩, ⟨p2i, p2g, p2A, p2n, p2c, p2l⟩⟩ := p
      obtain ⟨⟨r1i, r1g, r1A, r1n, r1c, r1l⟩, ⟨r2i, r2g, r2A, r2n, r2c, r2l⟩⟩ := q
      simp only [Bd.v, Bd.vals] at HSb
      have hki : (k : Int) < (n' : Int) := by omega
      have hk0 : (0 : Int) ≤ (k : Int) := by omega
      clear hp hq q0 q1 q2 q3 q4 q5 q0' q1' q2' q3' q4' q5' keepP cell1 cell2 HKp HKq hPb hPb'
      go_upto_region 6 with fail
      refine wp_region_H (by kernel_rfl) (fun z0 K0 hs0 => ?_)
      refine tkH 0 (v := ?tv0_1) K0 rfl (by kernel_rfl) ?tq0_1 (by kernel_rfl) (fun z5 hS => ?ty0_1) ?_
      case ty0_1 => go_simp; rfl
      case tq0_1 => exact fun _ _ _ h => h
      refine tkH 1 (v := ?tv1_2) K0 rfl (by kernel_rfl) ?tq1_2 (by kernel_rfl) (fun z5 hS => ?ty1_2) ?_
      case ty1_2 => go_simp; rfl
      case tq1_2 => exact fun _ _ _ h => h
      refine tkH 2 (v := ?tv2_3) K0 rfl (by kernel_rfl) ?tq2_3 (by kernel_rfl) (fun z5 hS => ?ty2_3) ?_
      case ty2_3 => go_simp; rfl
      case tq2_3 => exact fun _ _ _ h => h
      refine tkH 3 (v := ?tv3_4) K0 rfl (by kernel_rfl) ?tq3_4 (by kernel_rfl) (fun z5 hS => ?ty3_4) ?_
      case ty3_4 => go_simp; rfl
      case tq3_4 => exact fun _ _ _ h => h
      refine tkH 4 (v := ?tv4_5) K0 rfl (by kernel_rfl) ?tq4_5 (by kernel_rfl) (fun z5 hS => ?ty4_5) ?_
      case ty4_5 => have g0 := (HC1.out z5 (o + k * 6) (HI.out.trans (hS.mono HSz.out))).trans HQ.out.1.1; have g1 := (HC1.out z5 (o + k * 6 + 1) (HI.out.trans (hS.mono HSz.out))).trans HQ.out.1.2.1; have g2 := (HC1.out z5 (o + k * 6 + 2) (HI.out.trans (hS.mono HSz.out))).trans HQ.out.1.2.2.1; go_simp; rfl
      case tq4_5 => exact fun _ _ _ h => h
      refine tkH 5 (v := ?tv5_6) K0 rfl (by kernel_rfl) ?tq5_6 (by kernel_rfl) (fun z5 hS => ?ty5_6) ?_
      case ty5_6 => go_simp; rfl
      case tq5_6 => exact fun _ _ _ h => h
      refine tkH 6 (v := ?tv6_7) K0 rfl (by kernel_rfl) ?tq6_7 (by kernel_rfl) (fun z5 hS => ?ty6_7) ?_
      case ty6_7 => go_simp; rfl
      case tq6_7 => exact fun _ _ _ h => h
      refine tkH 7 (v := ?tv7_8) K0 rfl (by kernel_rfl) ?tq7_8 (by kernel_rfl) (fun z5 hS => ?ty7_8) ?_
      case ty7_8 => go_simp; rfl
      case tq7_8 => exact fun _ _ _ h => h
      refine tkH 8 (v := ?tv8_9) K0 rfl (by kernel_rfl) ?tq8_9 (by kernel_rfl) (fun z5 hS => ?ty8_9) ?_
      case ty8_9 => go_simp; rfl
      case tq8_9 => exact fun _ _ _ h => h
      refine tkH 9 (v := ?tv9_10) K0 rfl (by kernel_rfl) ?tq9_10 (by kernel_rfl) (fun z5 hS => ?ty9_10) ?_
      case ty9_10 => have g0 := (HC2.out z5 (o' + k * 6) (HI.out.trans (hS.mono HSz.out))).trans HQ.out.2.1; have g1 := (HC2.out z5 (o' + k * 6 + 1) (HI.out.trans (hS.mono HSz.out))).trans HQ.out.2.2.1; have g2 := (HC2.out z5 (o' + k * 6 + 2) (HI.out.trans (hS.mono HSz.out))).trans HQ.out.2.2.2.1; go_simp; rfl
      case tq9_10 => exact fun _ _ _ h => h
      refine wpAnyH_one (i := 10) (by kernel_rfl) rfl (by kernel_rfl) (fun K hK => ?_)
      go_simp
      (with_reducible refine (HSb.out _ (HI.out.trans (K0.mono HSz.out))).1.mono ?_)
      rintro e z1 ⟨rfl, hb1⟩
      have K1 := K0.trans (hb1.mono K0.size)
      refine hK.out _ _ K1 ?_
      refine tkH 11 (v := ?tv11_11) K1 rfl (by kernel_rfl) ?tq11_11 (by kernel_rfl) (fun z5 hS => ?ty11_11) ?_
      case ty11_11 => go_simp; rfl
      case tq11_11 => exact fun _ _ _ h => h
      refine tkH 12 (v := ?tv12_12) K1 rfl (by kernel_rfl) ?tq12_12 (by kernel_rfl) (fun z5 hS => ?ty12_12) ?_
      case ty12_12 => go_simp; rfl
      case tq12_12 => exact fun _ _ _ h => h
      refine tkH 13 (v := ?tv13_13) K1 rfl (by kernel_rfl) ?tq13_13 (by kernel_rfl) (fun z5 hS => ?ty13_13) ?_
      case ty13_13 => go_simp; rfl
      case tq13_13 => exact fun _ _ _ h => h
      refine tkH 14 (v := ?tv14_14) K1 rfl (by kernel_rfl) ?tq14_14 (by kernel_rfl) (fun z5 hS => ?ty14_14) ?_
      case ty14_14 => go_simp; rfl
      case tq14_14 => exact fun _ _ _ h => h
      refine tkH 15 (v := ?tv15_15) K1 rfl (by kernel_rfl) ?tq15_15 (by kernel_rfl) (fun z5 hS => ?ty15_15) ?_
      case ty15_15 => go_simp; rfl
      case tq15_15 => exact fun _ _ _ h => h
      refine tkH 16 (v := ?tv16_16) K1 rfl (by kernel_rfl) ?tq16_16 (by kernel_rfl) (fun z5 hS => ?ty16_16) ?_
      case ty16_16 => go_simp; rfl
      case tq16_16 => exact fun _ _ _ h => h
      refine tkH 17 (v := ?tv17_17) K1 rfl (by kernel_rfl) ?tq17_17 (by kernel_rfl) (fun z5 hS => ?ty17_17) ?_
      case ty17_17 => have g0 := (HC1.out z5 (o + k * 6 + 3) (HI.out.trans (hS.mono HSz.out))).trans HQ.out.1.2.2.2.1; have g1 := (HC1.out z5 (o + k * 6 + 4) (HI.out.trans (hS.mono HSz.out))).trans HQ.out.1.2.2.2.2.1; have g2 := (HC1.out z5 (o + k * 6 + 5) (HI.out.trans (hS.mono HSz.out))).trans HQ.out.1.2.2.2.2.2; go_simp; rfl
      case tq17_17 => exact fun _ _ _ h => h
      refine tkH 18 (v := ?tv18_18) K1 rfl (by kernel_rfl) ?tq18_18 (by kernel_rfl) (fun z5 hS => ?ty18_18) ?_
      case ty18_18 => go_simp; rfl
      case tq18_18 => exact fun _ _ _ h => h
      refine tkH 19 (v := ?tv19_19) K1 rfl (by kernel_rfl) ?tq19_19 (by kernel_rfl) (fun z5 hS => ?ty19_19) ?_
      case ty19_19 => go_simp; rfl
      case tq19_19 => exact fun _ _ _ h => h
      refine tkH 20 (v := ?tv20_20) K1 rfl (by kernel_rfl) ?tq20_20 (by kernel_rfl) (fun z5 hS => ?ty20_20) ?_
      case ty20_20 => go_simp; rfl
      case tq20_20 => exact fun _ _ _ h => h
      refine tkH 21 (v := ?tv21_21) K1 rfl (by kernel_rfl) ?tq21_21 (by kernel_rfl) (fun z5 hS => ?ty21_21) ?_
      case ty21_21 => go_simp; rfl
      case tq21_21 => exact fun _ _ _ h => h
      refine tkH 22 (v := ?tv22_22) K1 rfl (by kernel_rfl) ?tq22_22 (by kernel_rfl) (fun z5 hS => ?ty22_22) ?_
      case ty22_22 => have g0 := (HC2.out z5 (o' + k * 6 + 3) (HI.out.trans (hS.mono HSz.out))).trans HQ.out.2.2.2.2.1; have g1 := (HC2.out z5 (o' + k * 6 + 4) (HI.out.trans (hS.mono HSz.out))).trans HQ.out.2.2.2.2.2.1; have g2 := (HC2.out z5 (o' + k * 6 + 5) (HI.out.trans (hS.mono HSz.out))).trans HQ.out.2.2.2.2.2.2; go_simp; rfl
      case tq22_22 => exact fun _ _ _ h => h
      refine wpAnyH_one (i := 23) (by kernel_rfl) rfl (by kernel_rfl) (fun K hK => ?_)
      go_simp
      (with_reducible refine (HSb.out _ (HI.out.trans (K1.mono HSz.out))).2.mono ?_)
      rintro e z2 ⟨rfl, hb2⟩
      have K2 := K1.trans (hb2.mono K1.size)
      refine hK.out _ _ K2 ?_
      refine tkH 24 (v := ?tv24_23) K2 rfl (by kernel_rfl) ?tq24_23 (by kernel_rfl) (fun z5 hS => ?ty24_23) ?_
      case ty24_23 => go_simp; rfl
      case tq24_23 => exact fun _ _ _ h => h
      refine wpAnyH_one (i := 25) (by kernel_rfl) rfl (by kernel_rfl) (fun K hK => ?_)
      go_simp
      refine hK.out _ _ K2 ?_
      refine wpAnyH_end (by kernel_rfl) ?_ _
      have HB2 := Lib.hid (HI.out.trans (K2.mono HSz.out))
      clear K0 K1 K2 hb1 hb2 hs0
      go_wp2_with fail
      go_roundw
      case rel => exact ⟨k + 1, by omega, by go_num, HB2⟩
      case measure => simp [intOf]; omega
    · have hki : ¬ (k : Int) < (n' : Int) := by omega
      go_wp2_with fail
      go_ret
      exact ⟨rfl, HI.out⟩
/-! ### the law's is: what is given is the document's; it is written over -/
theorem longE_lng (L : List R) : longE L = L.any lngS := by
  have h1 : ∀ e : Ed, decide (128 < szE e) = lngE e := fun e => by
    cases e with
    | lo => simp [szE, lngE]
    | hi => simp [szE, lngE]
    | num z =>
      show decide (128 < (digs W z.natAbs).length) = decide (4096 < (digs 2 z.natAbs).length)
      obtain ⟨m, hm⟩ : ∃ m, 32 * 128 = m := ⟨_, rfl⟩
      rw [show 4096 = m by omega]
      have hW : W ^ 128 = 2 ^ m := by
        show (4294967296 : Nat) ^ 128 = 2 ^ m
        rw [show (4294967296 : Nat) = 2 ^ 32 from rfl, ← Nat.pow_mul, hm]
      clear hm
      have a1 : (digs W z.natAbs).length ≤ 128 ↔ (digs 2 z.natAbs).length ≤ m := by
        constructor
        · intro h
          have := lt_of_digs_length (b := W) (by decide) h
          exact digs_length_le (by decide) (by rw [← hW]; exact this)
        · intro h
          have := lt_of_digs_length (b := 2) (by decide) h
          exact digs_length_le (by decide) (by rw [hW]; exact this)
      exact decide_eq_decide.2 (by omega)
  unfold longE
  congr 1
  funext r
  rw [h1, h1]
  rfl
/-- a normal row of the call's own, whose limbs can be written over -/
structure WR (B : Nat) (A : Option Addr) (n c : Nat) (wr : World) : Prop where
  own : ∃ ps : List Rg, RRow wr B (Ft B wr) A n c ps
theorem SmB.of {a b : Bd} (h : a.i = b.i ∧ a.g = b.g ∧ a.l = b.l) : SmB a b := h
set_option maxRecDepth 100000 in
set_option maxHeartbeats 4000000 in
theorem is_bad {w : World} (bad : Int) (hb : bad ≠ 0) (h1 : -9223372036854775808 ≤ bad) (h2 : bad ≤ 9223372036854775807) (X : Option Addr) (xn xc : Nat) :
    Calls Try.prog 10 #[.slice none 0 0, .int .i64 bad, .slice X xn xc, .int .i64 bad] w fun e w' => e = .returned (.bool true) ∧ Below w.heap.size w w' := by
  have HS := Lib.hid (sameRanges_parts (w := w) (P := fun _ => False) (A := none) (A' := none) (n := 0) (n' := 0) (c := 0) (c' := 0) (ps := []) (qs := []) ⟨⟨rfl, Nat.le_refl _, by simp [maxLen], fun h => absurd rfl h⟩, fun p hp => by cases hp⟩ ⟨⟨rfl, Nat.le_refl _, by simp [maxLen], fun h => absurd rfl h⟩, fun p hp => by cases hp⟩ (fun b h => h.elim) rfl (fun k p q hp hq => by simp at hp))
  have hbb : (bad == 0) = false := beq_eq_false_iff_ne.2 hb
  have HBB := Lib.hid hb
  clear hb
  go_enter Try.func10, Try.ntmps10
  go_wp2_with fail
  (with_reducible refine HS.out.mono ?_)
  rintro e w1 ⟨he, hb1⟩
  subst he
  have HB1 := Lib.hid hb1
  clear hb1
  go_wp2_with fail
  go_loopw [12] (fun vi wr => vi = .int .i64 0 ∧ Hid (Below w.heap.size w wr)) (fun vi _ => 0)
  case atStart => exact ⟨rfl, HB1⟩
  case round =>
    obtain ⟨rfl, HI⟩ := hrel
    clear HB1
    go_wp2_with fail
    exact bodyPost_ret (v := .bool true) (by simp [results, Try.results10, go_sem]) rfl ⟨rfl, HI.out⟩
/-- what can be written over: the row g, and the limbs of its lower ends -/
def LoW (w : World) (B g : Nat) (b : Bd) : Prop := b.n ≤ maxLen ∧ ∀ k, k < b.n → ∃ x o v, b.A = some ⟨x, o, none⟩ ∧ B ≤ x ∧ x ≠ g ∧ x < w.heap.size ∧ Th w x ∧ w.cell? ⟨x, o + k, none⟩ = some v
structure Wr (w : World) (B g n c : Nat) (ps : List Rg) : Prop where
  own : w.ownsRow B 41 6 (.slice (some ⟨g, 0, none⟩) n c) n (fl6 ps)
  kid : ∀ p ∈ ps, LoW w B g p.1
theorem frozen_put (w : World) (a : Addr) (v : Value) (x : Addr) : (w.setCell a v).frozen? x = w.frozen? x := World.frozen?_setCell w a x v
theorem LoW.keep {w w' : World} {B g : Nat} {b : Bd} (h : LoW w B g b) (hs : w.heap.size ≤ w'.heap.size) (hb : ∀ x, B ≤ x → x ≠ g → x < w.heap.size → w'.heap[x]? = w.heap[x]?) : LoW w' B g b :=
  ⟨h.1, fun k hk => by
    obtain ⟨x, o, v, h1, h2, h3, h4, h5, h6⟩ := h.2 k hk
    exact ⟨x, o, v, h1, h2, h3, by omega, h5.of (hb x h2 h3 h4), (World.cell?_of_block (a := ⟨x, o + k, none⟩) (hb x h2 h3 h4)).trans h6⟩⟩
theorem LoW.put {w : World} {B g x j : Nat} {v : Value} {b : Bd} (h : LoW w B g b) : LoW (w.setCell ⟨x, j, none⟩ v) B g b :=
  ⟨h.1, fun k hk => by
    obtain ⟨x', o, v', h1, h2, h3, h4, h5, h6⟩ := h.2 k hk
    obtain ⟨v2, h7⟩ := cell?_setCell_some (p := ⟨x, j, none⟩) (x := v) h6
    exact ⟨x', o, v2, h1, h2, h3, by rw [World.size_setCell]; exact h4, fun t => by rw [frozen_put]; exact h5 t, h7⟩⟩
theorem Wr.limb {w : World} {B g n c x j : Nat} {v : Value} {ps : List Rg} (h : Wr w B g n c ps) (hx : x ≠ g) : Wr (w.setCell ⟨x, j, none⟩ v) B g n c ps :=
  ⟨by
    have h1 : (w.setCell ⟨x, j, none⟩ v).heap[g]? = w.heap[g]? := Below.heap_setCell w ⟨x, j, none⟩ v g (Ne.symm hx)
    refine ⟨h.own.1, ?_⟩
    rcases h.own.2 with ⟨h2, _⟩ | ⟨g', cap, cur, h2, h3, h4, h5⟩
    · cases h2
    · injection h2 with a b cc
      injection a with a
      injection a with a
      subst a
      subst cc
      exact .inr ⟨g, c, cur, rfl, h3, h1.trans h4, h5⟩, fun p hp => (h.kid p hp).put⟩
theorem Wr.row {w : World} {B g n c i : Nat} {ps : List Rg} {p : Rg} (h : Wr w B g n c ps) (hi : ps[i]? = some p) (q : Rg) (hq : q.1.n = 0) :
    Wr ((((((w.setCell ⟨g, i * 6, none⟩ (.int .i64 q.1.i)).setCell ⟨g, i * 6 + 1, none⟩ (.bool q.1.g)).setCell ⟨g, i * 6 + 2, none⟩ (.slice q.1.A q.1.n q.1.c)).setCell ⟨g, i * 6 + 3, none⟩ (.int .i64 q.2.i)).setCell ⟨g, i * 6 + 4, none⟩ (.bool q.2.g)).setCell ⟨g, i * 6 + 5, none⟩ (.slice q.2.A q.2.n q.2.c)) B g n c (ps.set i q) :=
  ⟨by rw [fl6_set q hi]; exact own_set (own_set (own_set (own_set (own_set (own_set h.own _ _) _ _) _ _) _ _) _ _) _ _, fun p' hp' => by
    rcases List.mem_or_eq_of_mem_set hp' with h1 | h1
    · exact (((((((h.kid p' h1).put).put).put).put).put).put)
    · rw [h1]; exact ⟨by rw [hq]; exact Nat.zero_le _, fun k hk => by omega⟩⟩
theorem Wr.cells {w : World} {B g n c i : Nat} {ps : List Rg} {p : Rg} (h : Wr w B g n c ps) (hk : ps[i]? = some p) :
    w.cell? ⟨g, i * 6, none⟩ = some (.int .i64 p.1.i) ∧ w.cell? ⟨g, i * 6 + 1, none⟩ = some (.bool p.1.g) ∧ w.cell? ⟨g, i * 6 + 2, none⟩ = some (.slice p.1.A p.1.n p.1.c) ∧
    w.cell? ⟨g, i * 6 + 3, none⟩ = some (.int .i64 p.2.i) ∧ w.cell? ⟨g, i * 6 + 4, none⟩ = some (.bool p.2.g) ∧ w.cell? ⟨g, i * 6 + 5, none⟩ = some (.slice p.2.A p.2.n p.2.c) := by
  have key : ∀ j u, j < 6 → (cells6 p)[j]? = some u → w.cell? ⟨g, i * 6 + j, none⟩ = some u := fun j u hj hu => by
    have := World.ownsRow.cells h.own (g := g) rfl (i * 6 + j) u ((fl6_get hk hj).trans hu)
    rwa [add_zero'] at this
  exact ⟨key 0 _ (by omega) rfl, key 1 _ (by omega) rfl, key 2 _ (by omega) rfl, key 3 _ (by omega) rfl, key 4 _ (by omega) rfl, key 5 _ (by omega) rfl⟩
theorem Wr.len {w : World} {B g n c : Nat} {ps : List Rg} (h : Wr w B g n c ps) : ps.length = n := by have := h.own.1; rw [fl6_length] at this; omega
theorem Wr.keep {w w' : World} {B g n c : Nat} {ps : List Rg} (h : Wr w B g n c ps) (hb : Below w.heap.size w w') (hg : g < w.heap.size) : Wr w' B g n c ps :=
  ⟨by
    refine ⟨h.own.1, ?_⟩
    rcases h.own.2 with ⟨h2, _⟩ | ⟨g', cap, cur, h2, h3, h4, h5⟩
    · cases h2
    · injection h2 with a b cc
      injection a with a
      injection a with a
      subst a
      subst cc
      exact .inr ⟨g, c, cur, rfl, h3, (hb.block g hg).trans h4, h5⟩, fun p hp => (h.kid p hp).keep hb.size (fun x _ _ hx => hb.block x hx)⟩
theorem Wr.of {w : World} {B g n c : Nat} {ps : List Rg} (h : RRow w B (Ft B w) (some ⟨g, 0, none⟩) n c ps) : Wr w B g n c ps :=
  ⟨h.own, fun p hp => by
    have h1 := (h.kid p hp).a.lim
    refine ⟨Nat.le_trans h1.cap h1.max, fun k hk => ?_⟩
    obtain ⟨x, o, e, hx, hc⟩ := h1.rd (fun e => by have := h1.len; rw [e] at this; simp at this; omega)
    obtain ⟨v, hv⟩ : ∃ v, (u32s p.1.l)[k]? = some v := ⟨(u32s p.1.l)[k]'(by rw [u32s_length, h1.len]; exact hk), by simp⟩
    exact ⟨x, o, v, e, hx.1.1.1, fun e2 => hx.2 (by rw [e2]; rfl), hx.1.1.2, hx.1.2, hc k v hv⟩⟩
set_option maxRecDepth 100000 in
set_option maxHeartbeats 8000000 in
theorem is_ok {w : World} {P : Nat → Prop} {B n c xn xc : Nat} {A X : Option Addr} {qs xs : List Rg} (hrow : RRow w B (Ft B w) A n c qs) (hB : B ≤ w.heap.size) (hgd : ∀ q ∈ qs, Gd q) (hnf : NF (qs.map edsR)) (hx : RefI w P X xn xc xs) (hP : ∀ b, P b → b < w.heap.size)
    (hm : ∀ z, Hf.mem z (qs.map edsR) ↔ Hf.mem z (xs.map edsS)) (hl : (xs.map edsS).any lngS = false) (hn : n ≤ 1000) :
    Calls Try.prog 10 #[.slice A n c, .int .i64 0, .slice X xn xc, .int .i64 0] w fun e w' => e = .returned (.bool true) ∧ Below B w w' := by
  have HRow := Lib.hid hrow
  have HGv := Lib.hid (rGive_any hx hP hl (fun N h1 h2 => by rw [NF.uniq h1 hnf (fun z => (h2 z).trans (hm z).symm), List.length_map, hrow.len]; exact hn))
  have HNf := Lib.hid (And.intro hnf (And.intro hm hgd))
  have HBz := Lib.hid hB
  have hcap := hrow.cap
  have hmax := hcap.2
  unfold maxLen at hmax
  clear hrow hB hgd hnf hx hP hm hl
  go_enter Try.func10, Try.ntmps10
  go_wp2_with fail
  (with_reducible refine HGv.out.mono ?_)
  rintro e w1 ⟨A1, n1, c1, rs, he, hset, hnf1, hm1, hnr, hb1⟩
  subst he
  have HR1 := Lib.hid (HRow.out.keepP (w' := w1) (fun b _ hb => hb1.block b hb) (fun b hb => hb1.block b hb.1.2))
  have HEq := Lib.hid (show qs.map edsR = rs.map edsR from NF.uniq HNf.out.1 hnf1 (fun z => (HNf.out.2.1 z).trans (hm1 z).symm))
  have HSm := Lib.hid (sameRanges_parts (w := w1) (P := fun b => b < w1.heap.size) ((HR1.out.wide (Q := fun b => b < w1.heap.size) (fun b hb => Nat.lt_of_lt_of_le hb.1.2 hb1.size)).set (fun b _ h => h)) (hset.wide (fun b hb => hb.2)) (fun b h => h)
    (by
      have h1 := congrArg List.length HEq.out
      rw [List.length_map, List.length_map, HR1.out.len, hset.row.len] at h1
      exact h1.symm)
    (fun k p q hp hq => by
      have h1 := congrArg (fun l => l[k]?) HEq.out
      simp only [List.getElem?_map, hp, hq, Option.map_some] at h1
      have h2 := Option.some.inj h1
      unfold edsR at h2
      injection h2 with h3 h4
      have n1 := (HNf.out.2.2 p (List.mem_of_getElem? hp)).1
      have n2 := hnr q (List.mem_of_getElem? hq)
      exact ⟨Bd.Nrm.same n1.1 n2.1 h3, Bd.Nrm.same n1.2 n2.2 h4⟩))
  have HB1 := Lib.hid hb1
  clear hset hnf1 hm1 hnr hb1 HGv
  go_wp2_with fail
  (with_reducible refine HSm.out.mono ?_)
  rintro e w2 ⟨he, hb2⟩
  subst he
  have HB2 := Lib.hid (HB1.out.trans (hb2.mono HB1.out.size))
  have HR2 := Lib.hid (show RRow w2 B (Ft B w2) A n c qs from HRow.out.ft HB2.out)
  clear hb2 HSm HR1 HB1
  by_cases hn0 : n = 0
  · subst hn0
    have HI0 := Lib.hid (show Below B w w2 from HB2.out.mono HBz.out)
    go_wp2_with fail
    go_loopw [12] (fun vi wr => vi = .int .i64 0 ∧ Hid (Below B w wr)) (fun vi _ => 0)
    case atStart => exact ⟨rfl, HI0⟩
    case round =>
      obtain ⟨rfl, HI⟩ := hrel
      clear HI0
      go_wp2_with fail
      exact bodyPost_ret (v := .bool true) (by simp [results, Try.results10, go_sem]) rfl ⟨rfl, HI.out⟩
  · obtain ⟨g, rfl, hg1, hg2, _⟩ := HR2.out.some_ (by omega)
    have HI0 := Lib.hid (show Below B w w2 ∧ w2.heap.size ≤ w2.heap.size ∧ Wr w2 B g n c qs from ⟨HB2.out.mono HBz.out, Nat.le_refl _, Wr.of HR2.out⟩)
    clear hn0
    go_wp2_with fail
    go_loopw [12] (fun vi wr => ∃ i ps, i ≤ n ∧ vi = .int .i64 (i : Nat) ∧ Hid (Below B w wr ∧ w2.heap.size ≤ wr.heap.size ∧ Wr wr B g n c ps)) (fun vi _ => n - (intOf vi).toNat)
    case atStart => exact ⟨0, qs, Nat.zero_le _, rfl, HI0⟩
    case round =>
      obtain ⟨i, ps, hi, rfl, HI⟩ := hrel
      clear HI0
      by_cases hin : i < n
      · obtain ⟨p, hp⟩ : ∃ p, ps[i]? = some p := ⟨ps[i]'(by have := HI.out.2.2.len; omega), by simp⟩
        have HKp := Lib.hid (HI.out.2.2.kid p (List.mem_of_getElem? hp))
        have HPp := Lib.hid hp
        have hmx := HKp.out.1
        unfold maxLen at hmx
        have hii : (i : Int) < (n : Int) := by omega
        have hi0 : (0 : Int) ≤ (i : Int) := by omega
        have HJ0 := Lib.hid HI.out
        clear hp HI HKp
        generalize wr = wo at *
        go_wp2_with fail
        go_loopw [13] (fun vk wr => ∃ k, k ≤ p.1.n ∧ vk = .int .i64 (k : Nat) ∧ Hid (Below B w wr ∧ w2.heap.size ≤ wr.heap.size ∧ Wr wr B g n c ps)) (fun vk _ => p.1.n - (intOf vk).toNat)
        case atStart => exact ⟨0, Nat.zero_le _, rfl, HJ0⟩
        case round =>
          obtain ⟨k, hk, rfl, HJ⟩ := hrel
          clear HJ0
          obtain ⟨i0, i1, i2, i3, i4, i5⟩ := HJ.out.2.2.cells HPp.out
          have hg3 : g < wr.heap.size := by have := HJ.out.2.1; omega
          have hk0 : (0 : Int) ≤ (k : Int) := by omega
          by_cases hkn : k < p.1.n
          · obtain ⟨x, o, v, hA, hx1, hx2, hx3, hx4, hx5⟩ := (HJ.out.2.2.kid p (List.mem_of_getElem? HPp.out)).2 k hkn
            have HSt := Lib.hid (HJ.out.2.2.limb (x := x) (j := o + k) (v := .int .u32 99) hx2)
            have f0 := hx4 (o + k)
            obtain ⟨⟨p1i, p1g, p1A, p1n, p1c, p1l⟩, p2⟩ := p
            simp only at hA hkn hk hmx i0 i1 i2
            subst hA
            have hki : (k : Int) < (p1n : Int) := by omega
            have HX := Lib.hid (And.intro hx1 hx3)
            clear hx4
            go_wp2_with fail
            go_roundw
            case rel => exact ⟨k + 1, by omega, by go_num, Lib.hid ⟨HJ.out.1.setCell HX.out.1 _, by rw [World.size_setCell]; exact HJ.out.2.1, HSt.out⟩⟩
            case measure => simp [intOf]; omega
          · have hki : ¬ (k : Int) < (p.1.n : Int) := by omega
            have HSt := Lib.hid (HJ.out.2.2.row HPp.out (⟨7, false, none, 0, 0, []⟩, ⟨0, false, none, 0, 0, []⟩) rfl)
            have hth := own_th HJ.out.2.2.own
            have f0 := hth (i * 6)
            have f1 := hth (i * 6 + 1)
            have f2 := hth (i * 6 + 2)
            have f3 := hth (i * 6 + 3)
            have f4 := hth (i * 6 + 4)
            have f5 := hth (i * 6 + 5)
            have HG := Lib.hid hg1
            simp only at HSt
            clear hth
            go_wp2_with fail
            go_roundw
            case rel => exact ⟨i + 1, _, by omega, by go_num, Lib.hid ⟨(((((HJ.out.1.setCell HG.out _).setCell HG.out _).setCell HG.out _).setCell HG.out _).setCell HG.out _).setCell HG.out _, by simp only [World.size_setCell]; exact HJ.out.2.1, HSt.out⟩⟩
            case measure => simp [intOf]; omega
      · have hii : ¬ (i : Int) < (n : Int) := by omega
        go_wp2_with fail
        exact bodyPost_ret (v := .bool true) (by simp [results, Try.results10, go_sem]) rfl ⟨rfl, HI.out.1⟩
end Go.Proofs.Ytpikjceodmepiaa

