import Derived.Test.YtpikjceodmepiaaAdm
set_option linter.unusedVariables false
set_option linter.unusedSimpArgs false
namespace Go.Proofs.Ytpikjceodmepiaa
open Go.RowKit Hb Hf
set_option linter.unusedVariables false
set_option linter.unusedSimpArgs false
attribute [local go_sem ↓] Go.wp_at_zero Go.wp_at_succ
/-! ### the reference: Of -/
def ROfB (B : Nat) (w : World) (L : List R) (n : Nat) (e : Ending) (w' : World) : Prop := ∃ A' c' qs, e = .returned (.slice A' n c') ∧ SRow w' B (Fr B w') A' n c' qs ∧ qs.map edsS = L ∧ Below B w w'
def ROf (w : World) (L : List R) (n : Nat) (e : Ending) (w' : World) : Prop := ROfB w.heap.size w L n e w'
theorem Sb.mk_ {w : World} {P : Nat → Prop} {e : Ed} {b : Bd} (h : Sb w P e b) : Sb w P b.ed2 b := by
  have h2 := h.ed
  rw [h2]
  exact h
set_option maxRecDepth 100000 in
set_option maxHeartbeats 8000000 in
theorem rOf_any {w : World} {P : Nat → Prop} {A : Option Addr} {n c : Nat} {ps : List Rg} (h : SetP w P A n c ps) (hP : ∀ b, P b → b < w.heap.size) (hs : ∀ p ∈ ps, p.1.n ≤ 31250000 ∧ p.2.n ≤ 31250000) (hn : n ≤ 1000000000) :
    Calls Try.prog 7 #[.slice A n c] w (ROf w (ps.map edsR) n) := by
  have HS := Lib.hid h
  have HP := Lib.hid hP
  have HZ := Lib.hid hs
  have HLn := Lib.hid h.row.len
  have hcap := h.row.cap
  have hmax := h.row.max
  unfold maxLen at hmax
  obtain ⟨B, hB⟩ : ∃ B, w.heap.size = B := ⟨_, rfl⟩
  have HB := Lib.hid hB
  have HN0 := Lib.hid (show Below B w w ∧ B ≤ w.heap.size ∧ SRow w B (Fr B w) none 0 0 [] ∧ ([] : List Rg).map edsS = (ps.take 0).map edsR from ⟨Below.refl _ _, by omega, SRow.nil _ _ _, rfl⟩)
  unfold ROf
  rw [hB]
  clear h hP hs hB
  go_enter Try.func7, Try.ntmps7
  go_wp2_with fail
  go_loopw [3, 4] (fun vo vi wr => ∃ k A' c' qs, k ≤ n ∧ vi = .int .i64 (k : Nat) ∧ vo = .slice A' k c' ∧ Hid (Below B w wr ∧ B ≤ wr.heap.size ∧ SRow wr B (Fr B wr) A' k c' qs ∧ qs.map edsS = (ps.take k).map edsR)) (fun _ vi _ => n - (intOf vi).toNat)
  case atStart => exact ⟨0, none, 0, [], Nat.zero_le _, rfl, rfl, HN0⟩
  case round =>
    obtain ⟨k, A2, c2, qs, hk, rfl, rfl, HI⟩ := hrel
    clear HN0
    by_cases hkn : k < n
    · obtain ⟨p, hp⟩ : ∃ p, ps[k]? = some p := ⟨ps[k]'(by have := HLn.out; omega), by simp⟩
      obtain ⟨b, o, rfl, hPb, q0, q1, q2, q3, q4, q5⟩ := HS.out.row.at_ hp
      have hbB : b < B := by have := HP.out b hPb; have := HB.out; omega
      have HKid := Lib.hid (HS.out.kid p (List.mem_of_getElem? hp))
      have HZp := Lib.hid (HZ.out p (List.mem_of_getElem? hp))
      have HPk := Lib.hid hp
      have HQ := Lib.hid (And.intro q0 (And.intro q1 (And.intro q2 (And.intro q3 (And.intro q4 q5)))))
      have keepP : ∀ (z : World), Below B w z → ∀ x, P x → P x ∧ z.heap[x]? = w.heap[x]? := fun z hz x hx => ⟨hx, hz.block x (by have := HP.out x hx; have := HB.out; omega)⟩
      have HSh := Lib.hid (fun z (hz : Below B w z) => And.intro (rend_any (w := z) (HKid.out.a.keep (keepP z hz)) (fun x hx => Nat.lt_of_lt_of_le (HP.out x hx) hz.size) HZp.out.1) (rend_any (w := z) (HKid.out.b.keep (keepP z hz)) (fun x hx => Nat.lt_of_lt_of_le (HP.out x hx) hz.size) HZp.out.2))
      have HC1 := Lib.hid (fun (z : World) (j : Nat) (hz : Below B w z) => (World.cell?_of_block (a := ⟨b, j, none⟩) (hz.block b hbB) : z.cell? ⟨b, j, none⟩ = w.cell? ⟨b, j, none⟩))
      have HEd := Lib.hid (show edsR p = (p.1.ed, p.2.ed) from rfl)
      obtain ⟨e1, he1⟩ : ∃ e, p.1.ed = e := ⟨_, rfl⟩
      obtain ⟨e2, he2⟩ : ∃ e, p.2.ed = e := ⟨_, rfl⟩
      rw [he1, he2] at HEd HSh
      obtain ⟨⟨p1i, p1g, p1A, p1n, p1c, p1l⟩, ⟨p2i, p2g, p2A, p2n, p2c, p2l⟩⟩ := p
      simp only [Bd.v, Bd.vals] at HSh
      have hki : (k : Int) < (n : Int) := by omega
      have hk0 : (0 : Int) ≤ (k : Int) := by omega
      clear hp q0 q1 q2 q3 q4 q5 keepP HKid HZp hPb he1 he2
      go_upto_region 5 with fail
      refine wp_region_HB B (by kernel_rfl) (fun z0 K0 hs0 => ?_)
      have S0 : Below B wr z0 := K0.mono HI.out.2.1
      refine tkH 0 (v := ?tv0_1) S0 rfl (by kernel_rfl) ?tq0_1 (by kernel_rfl) (fun z5 hS => ?ty0_1) ?_
      case ty0_1 => go_simp; rfl
      case tq0_1 => exact fun _ _ _ h => h
      refine tkH 1 (v := ?tv1_2) S0 rfl (by kernel_rfl) ?tq1_2 (by kernel_rfl) (fun z5 hS => ?ty1_2) ?_
      case ty1_2 => go_simp; rfl
      case tq1_2 => exact fun _ _ _ h => h
      refine tkH 2 (v := ?tv2_3) S0 rfl (by kernel_rfl) ?tq2_3 (by kernel_rfl) (fun z5 hS => ?ty2_3) ?_
      case ty2_3 => go_simp; rfl
      case tq2_3 => exact fun _ _ _ h => h
      refine tkH 3 (v := ?tv3_4) S0 rfl (by kernel_rfl) ?tq3_4 (by kernel_rfl) (fun z5 hS => ?ty3_4) ?_
      case ty3_4 => go_simp; rfl
      case tq3_4 => exact fun _ _ _ h => h
      refine tkH 4 (v := ?tv4_5) S0 rfl (by kernel_rfl) ?tq4_5 (by kernel_rfl) (fun z5 hS => ?ty4_5) ?_
      case ty4_5 => go_simp; rfl
      case tq4_5 => exact fun _ _ _ h => h
      refine tkH 5 (v := ?tv5_6) S0 rfl (by kernel_rfl) ?tq5_6 (by kernel_rfl) (fun z5 hS => ?ty5_6) ?_
      case ty5_6 => have g0 := (HC1.out z5 (o + k * 6) (HI.out.1.trans hS)).trans HQ.out.1; have g1 := (HC1.out z5 (o + k * 6 + 1) (HI.out.1.trans hS)).trans HQ.out.2.1; have g2 := (HC1.out z5 (o + k * 6 + 2) (HI.out.1.trans hS)).trans HQ.out.2.2.1; go_simp; rfl
      case tq5_6 => exact fun _ _ _ h => h
      refine tkH 7 (v := ?tv7_7) S0 rfl (by kernel_rfl) ?tq7_7 (by kernel_rfl) (fun z5 hS => ?ty7_7) ?_
      case ty7_7 => go_simp; rfl
      case tq7_7 => exact fun _ _ _ h => h
      refine tkH 8 (v := ?tv8_8) S0 rfl (by kernel_rfl) ?tq8_8 (by kernel_rfl) (fun z5 hS => ?ty8_8) ?_
      case ty8_8 => go_simp; rfl
      case tq8_8 => exact fun _ _ _ h => h
      refine tkH 9 (v := ?tv9_9) S0 rfl (by kernel_rfl) ?tq9_9 (by kernel_rfl) (fun z5 hS => ?ty9_9) ?_
      case ty9_9 => go_simp; rfl
      case tq9_9 => exact fun _ _ _ h => h
      refine tkH 10 (v := ?tv10_10) S0 rfl (by kernel_rfl) ?tq10_10 (by kernel_rfl) (fun z5 hS => ?ty10_10) ?_
      case ty10_10 => go_simp; rfl
      case tq10_10 => exact fun _ _ _ h => h
      refine tkH 11 (v := ?tv11_11) S0 rfl (by kernel_rfl) ?tq11_11 (by kernel_rfl) (fun z5 hS => ?ty11_11) ?_
      case ty11_11 => have g0 := (HC1.out z5 (o + k * 6 + 3) (HI.out.1.trans hS)).trans HQ.out.2.2.2.1; have g1 := (HC1.out z5 (o + k * 6 + 4) (HI.out.1.trans hS)).trans HQ.out.2.2.2.2.1; have g2 := (HC1.out z5 (o + k * 6 + 5) (HI.out.1.trans hS)).trans HQ.out.2.2.2.2.2; go_simp; rfl
      case tq11_11 => exact fun _ _ _ h => h
      refine wpAnyH_one (i := 6) (by kernel_rfl) rfl (by kernel_rfl) (fun K hK => ?_)
      go_simp
      (with_reducible refine (HSh.out _ (HI.out.1.trans S0)).1.mono ?_)
      rintro e z1 ⟨⟨ai, ag, aA, an, ac, al⟩, he, hat, hb1⟩
      simp only [Bd.v, Bd.vals] at he
      subst he
      have HAt1 := Lib.hid hat
      have K1 := K0.trans (hb1.mono K0.size)
      have S1 : Below B wr z1 := K1.mono HI.out.2.1
      refine hK.out _ _ S1 ?_
      refine wpAnyH_one (i := 12) (by kernel_rfl) rfl (by kernel_rfl) (fun K hK => ?_)
      go_simp
      (with_reducible refine (HSh.out _ (HI.out.1.trans S1)).2.mono ?_)
      rintro e z2 ⟨⟨bi, bg, bA, bn, bc, bl⟩, he, hbt, hb2⟩
      simp only [Bd.v, Bd.vals] at he
      subst he
      have HAt2 := Lib.hid hbt
      have K2 := K1.trans (hb2.mono K1.size)
      have S2 : Below B wr z2 := K2.mono HI.out.2.1
      refine hK.out _ _ S2 ?_
      refine tkH 13 (v := ?tv13_12) S2 rfl (by kernel_rfl) ?tq13_12 (by kernel_rfl) (fun z5 hS => ?ty13_12) ?_
      case ty13_12 => go_simp; rfl
      case tq13_12 => exact fun _ _ _ h => h
      refine wpAnyH_one (i := 14) (by kernel_rfl) rfl (by kernel_rfl) (fun K hK => ?_)
      go_simp
      have S3 : Below B wr (z2.alloc (.cells #[.int .i64 ai, .bool ag, .slice aA an ac, .int .i64 bi, .bool bg, .slice bA bn bc] 68)) := S2.alloc (by have := S2.size; have := HI.out.2.1; omega) _
      refine hK.out _ _ S3 ?_
      refine wpAnyH_one (i := 15) (by kernel_rfl) rfl (by kernel_rfl) (fun K hK => ?_)
      have hsz0 := K0.size
      have hsz1 := hb1.size
      have hsz2 := hb2.size
      have HAt := Lib.hid (show Sg z2 (fun x => wr.heap.size ≤ x ∧ x < z2.heap.size) ((⟨ai, ag, aA, an, ac, al⟩ : Bd), (⟨bi, bg, bA, bn, bc, bl⟩ : Bd)) from ⟨Sb.mk_ (hat.keep (fun x hx => ⟨⟨by have := hx.1; omega, by have := hx.2; omega⟩, hb2.block x hx.2⟩)), Sb.mk_ (hbt.wide (fun x hx => ⟨by have := hx.1; omega, hx.2⟩))⟩)
      refine step_app1S (q := ((⟨ai, ag, aA, an, ac, al⟩ : Bd), (⟨bi, bg, bA, bn, bc, bl⟩ : Bd))) rfl _ _ rfl (by rfl) (by rfl) HI.out.2.2.1 HI.out.2.1 K2 (HI.out.2.2.1.apart HI.out.2.1 (Nat.le_refl _) HAt.out) (by unfold maxRg; omega) ?_
      intro A6 c6 w6 hr6 hb6 hs6
      have HR6 := Lib.hid (And.intro hr6 (And.intro hb6 hs6))
      clear hr6 hb6 hs6 hat hbt hb1 hb2 K1 K2 S0 S1 S2 S3 hs0 K0 hsz0 hsz1 hsz2
      refine hK.out _ _ HR6.out.2.1 ?_
      refine wpAnyH_one (i := 16) (by kernel_rfl) rfl (by kernel_rfl) (fun K hK => ?_)
      go_simp
      refine hK.out _ _ HR6.out.2.1 ?_
      refine wpAnyH_end (by kernel_rfl) ?_ _
      have HG6 := Lib.hid (show (qs ++ [((⟨ai, ag, aA, an, ac, al⟩ : Bd), (⟨bi, bg, bA, bn, bc, bl⟩ : Bd))]).map edsS = (ps.take (k + 1)).map edsR from by
        rw [List.take_add_one, HPk.out, List.map_append, List.map_append, HI.out.2.2.2]
        congr 1
        simp only [Option.toList, List.map_cons, List.map_nil]
        rw [HEd.out]
        unfold edsS
        rw [HAt1.out.ed, HAt2.out.ed])
      go_wp2_with fail
      go_roundw
      case rel => exact ⟨k + 1, A6, c6, _, by omega, by go_num, by go_num, Lib.hid ⟨HI.out.1.trans HR6.out.2.1, Nat.le_trans HI.out.2.1 HR6.out.2.2, HR6.out.1, HG6.out⟩⟩
      case measure => simp [intOf]; omega
    · have hki : ¬ (k : Int) < (n : Int) := by omega
      have hkk : k = n := by omega
      subst hkk
      have key : ROfB B w (ps.map edsR) k (.returned (.slice A2 k c2)) wr := ⟨A2, c2, qs, rfl, HI.out.2.2.1, by rw [HI.out.2.2.2, List.take_of_length_le (by rw [HLn.out]; omega)], HI.out.1⟩
      go_wp2_with fail
      exact bodyPost_ret (v := .slice A2 k c2) (by simp [results, Try.results7, go_sem]) rfl key
end Go.Proofs.Ytpikjceodmepiaa

