import Derived.Test.YtpikjceodmepiaaZb
namespace Go.Proofs.Ytpikjceodmepiaa
open Go.RowKit Hb Hf
set_option linter.unusedVariables false
set_option linter.unusedSimpArgs false
attribute [local go_sem ↓] Go.wp_at_zero Go.wp_at_succ
/-! ### Ends -/
theorem fd_grown {w z : World} {r : Nat} (h : Below w.heap.size w z) : w.grownBy z (some r) := ⟨h.os, h.tape, h.output, h.size, fun j hj _ => h.block j hj⟩
section
variable {prog : Program} {ops : Array Oper} {Q : Exit → Act → World → Prop}
theorem wp_region_R {id : Nat} {a : Act} {w : World} (r st : Nat) (hm : prog.follows .mixedOrders = true)
    (h : ∀ z, Below w.heap.size w z → w.grownBy z (some r) → wpAnyW prog .any ops Q (fun z => w.grownBy z (some r)) st ops.size (Array.replicate ops.size false) a z) : (Code.region id ops true).wp prog Q a w :=
  wp_region_wait _ st hm (h w.drew (Below.refl _ _).drew (fd_grown (Below.refl _ _).drew))
end
def EndsPost (w : World) (L : List R) (e : Ending) (w' : World) : Prop :=
  ∃ N, NF N ∧ (∀ z, Hf.mem z N ↔ Hf.mem z L) ∧ Below w.heap.size w w' ∧
    ((N = [] ∧ e = .returned (.tuple #[(ib 0).v, (ib 0).v, .bool false, .int .i64 0])) ∨
     (∃ r s a b, N[0]? = some r ∧ N[N.length - 1]? = some s ∧ Bd.ed a = r.1 ∧ Bd.ed b = s.2 ∧ a.Nrm ∧ b.Nrm ∧ a.At w' (Fr w.heap.size w') ∧ b.At w' (Fr w.heap.size w') ∧ e = .returned (.tuple #[a.v, b.v, .bool true, .int .i64 0])))
set_option maxRecDepth 100000 in
set_option maxHeartbeats 8000000 in
theorem Ends_ok {w : World} {P : Nat → Prop} {A : Option Addr} {n c K M : Nat} {ps : List Rg} (h : SIn w P A n c ps K M) (hP : ∀ b, P b → b < w.heap.size) (hK : K ≤ 1000) (hM : M ≤ 128) :
    Calls Try.prog 23 #[.slice A n c] w (EndsPost w (ps.map edsR)) := by
  obtain ⟨B, hB⟩ : ∃ B, w.heap.size = B := ⟨_, rfl⟩
  have HB := Lib.hid hB
  obtain ⟨W0, hW0⟩ : ∃ W0, (((w.alloc (.cells #[.slice A n c] 22)).alloc (.cells #[.int .i64 0, .bool false, .slice none 0 0] 39)).alloc (.cells #[.int .i64 0, .bool false, .slice none 0 0] 39)).alloc (.cells #[.pointer (some ⟨w.heap.size, 0, none⟩)] 71) = W0 := ⟨_, rfl⟩
  have hbe : Below w.heap.size w W0 := by rw [← hW0]; exact ((((Below.refl _ _).alloc (Nat.le_refl _) _).alloc (by simp) _).alloc (by simp; omega) _).alloc (by simp; omega) _
  have z0 : W0.heap.size = w.heap.size + 4 := by rw [← hW0]; simp
  have v0 : VBox W0 w.heap.size A n c := by
    have h0 : VBox (w.alloc (.cells #[.slice A n c] 22)) w.heap.size A n c := heap_alloc_new w _
    rw [← hW0]
    exact (((((Below.refl _ _).alloc (Nat.le_refl _) _).alloc (by simp) _).alloc (by simp) _).block w.heap.size (by simp)).trans h0
  have e1 : EBox W0 (w.heap.size + 1) (ib 0) := by
    have h0 := EBox.new (w.alloc (.cells #[.slice A n c] 22)) (ib 0)
    rw [World.size_alloc] at h0
    rw [← hW0]
    exact ((((Below.refl _ _).alloc (Nat.le_refl _) _).alloc (by simp) _).block (w.heap.size + 1) (by simp)).trans h0
  have e2 : EBox W0 (w.heap.size + 2) (ib 0) := by
    have h0 := EBox.new ((w.alloc (.cells #[.slice A n c] 22)).alloc (.cells #[.int .i64 0, .bool false, .slice none 0 0] 39)) (ib 0)
    simp only [World.size_alloc] at h0
    rw [← hW0]
    exact (((Below.refl _ _).alloc (Nat.le_refl _) _).block (w.heap.size + 2) (by simp)).trans h0
  have p0 : W0.cell? ⟨w.heap.size + 1 + 1 + 1, 0, none⟩ = some (.pointer (some ⟨w.heap.size, 0, none⟩)) := by
    have := heap_alloc_new (((w.alloc (.cells #[.slice A n c] 22)).alloc (.cells #[.int .i64 0, .bool false, .slice none 0 0] 39)).alloc (.cells #[.int .i64 0, .bool false, .slice none 0 0] 39)) (.cells #[.pointer (some ⟨w.heap.size, 0, none⟩)] 71)
    simp only [World.size_alloc] at this
    rw [← hW0, cell_of_row _ _ 0 _ _ (0, 0) this]; rfl
  have HT := Lib.hid (take1 (K := K) (M := M) (r := 0) (ci := 0) (ns := []) (h.keep (Q := P) (fun b hb2 => ⟨hb2, hbe.block b (hP b hb2)⟩)) (fun b hb2 => ⟨by have := hP b hb2; omega, by have := hP b hb2; omega⟩) v0 p0 (by omega) (by omega) (InIn.nil _) (fun x hx => by cases hx) rfl (by omega) hK (by omega))
  have HI0 := Lib.hid (And.intro hbe (And.intro e1 (And.intro e2 z0)))
  have HKM := Lib.hid (And.intro hK hM)
  unfold EndsPost
  rw [hB] at hW0 HT HI0 ⊢
  subst hW0
  clear h hP hbe v0 e1 e2 p0 z0 hK hM hB
  go_enter Try.func23, Try.ntmps23
  go_wp2_with fail
  rw [HB.out]
  (with_reducible refine HT.out.mono ?_)
  rintro e w1 ⟨rfl, hch, A1, n1, c1, qs, hv1, ho1, hm1⟩
  rw [HI0.out.2.2.2] at ho1
  have HO1 := Lib.hid (And.intro hv1 (And.intro ho1 hm1))
  have HZ1 := Lib.hid (show B + 4 ≤ w1.heap.size by have := hch.size; rw [HI0.out.2.2.2] at this; exact this)
  have HBe1 := Lib.hid (show Below B w w1 from (HI0.out.1.mono (by have := HB.out; omega)).trans (hch.below (by rw [HI0.out.2.2.2]; omega) (fun ad had => by simp at had; omega)))
  have HE1 := Lib.hid (show EBox w1 (B + 1) (ib 0) from (hch.block (B + 1) (by rw [HI0.out.2.2.2]; omega) (by simp)).trans HI0.out.2.1)
  have HE2 := Lib.hid (show EBox w1 (B + 1 + 1) (ib 0) from (hch.block (B + 2) (by rw [HI0.out.2.2.2]; omega) (by simp)).trans HI0.out.2.2.1)
  obtain ⟨v0, _⟩ := hv1.cell
  obtain ⟨x0, x1, x2⟩ := HE1.out.cells
  obtain ⟨y0, y1, y2⟩ := HE2.out.cells
  obtain ⟨f0, f1, f2⟩ := HE1.out.frozens
  obtain ⟨g0, g1, g2⟩ := HE2.out.frozens
  have hz1 := HZ1.out
  have hlq := ho1.row.len
  clear hch hv1 ho1 hm1 HI0 HT
  by_cases hn0 : n1 = 0
  · subst hn0
    have HS1 := Lib.hid (HE1.out.set3 (ib 0))
    have HF3 := Lib.hid (EBox.gro HE2.out HS1.out.2 (by omega))
    have HS2 := Lib.hid (HF3.out.set3 (ib 0))
    have HS3 := Lib.hid (EBox.gro HS1.out.1 HS2.out.2 (by omega))
    simp only [ib] at x0 x1 x2 y0 y1 y2
    go_wp2_with fail
    have HX1 := Lib.hid HS1.out.2
    have HX2 := Lib.hid HS2.out
    clear HS1 HS2 HF3
    simp only [ib] at HS3 HX1 HX2
    generalize ((w1.setCell ⟨B + 1, 0, none⟩ (.int .i64 0)).setCell ⟨B + 1, 1, none⟩ (.bool false)).setCell ⟨B + 1, 2, none⟩ (.slice none 0 0) = y1 at *
    generalize ((y1.setCell ⟨B + 1 + 1, 0, none⟩ (.int .i64 0)).setCell ⟨B + 1 + 1, 1, none⟩ (.bool false)).setCell ⟨B + 1 + 1, 2, none⟩ (.slice none 0 0) = y2 at *
    obtain ⟨s0, s1, s2⟩ := HS3.out.cells
    obtain ⟨t0, t1, t2⟩ := HX2.out.1.cells
    simp only at s0 s1 s2 t0 t1 t2
    have zz2 := HX1.out.size
    have HBy := Lib.hid ((HBe1.out.grown HX1.out (by have := HB.out; omega) (fun j e => by injection e with e; have := HB.out; omega)).grown HX2.out.2 (by have := HB.out; omega) (fun j e => by injection e with e; have := HB.out; omega))
    have hqn : qs.map edsR = [] := by rw [List.length_eq_zero_iff.1 hlq]; rfl
    have key : (∃ N, NF N ∧ (∀ z, Hf.mem z N ↔ Hf.mem z (ps.map edsR)) ∧ Below B w y2 ∧
        ((N = [] ∧ Ending.returned (.tuple #[.agg #[.int .i64 0, .bool false, .slice none 0 0], .agg #[.int .i64 0, .bool false, .slice none 0 0], .bool false, .int .i64 0]) = .returned (.tuple #[(ib 0).v, (ib 0).v, .bool false, .int .i64 0])) ∨
         (∃ r s a b, N[0]? = some r ∧ N[N.length - 1]? = some s ∧ Bd.ed a = r.1 ∧ Bd.ed b = s.2 ∧ a.Nrm ∧ b.Nrm ∧ a.At y2 (Fr B y2) ∧ b.At y2 (Fr B y2) ∧ Ending.returned (.tuple #[.agg #[.int .i64 0, .bool false, .slice none 0 0], .agg #[.int .i64 0, .bool false, .slice none 0 0], .bool false, .int .i64 0]) = .returned (.tuple #[a.v, b.v, .bool true, .int .i64 0])))) :=
      ⟨qs.map edsR, HO1.out.2.1.nf, HO1.out.2.2, HBy.out, .inl ⟨hqn, rfl⟩⟩
    exact bodyPost_ret (v := .tuple #[.agg #[.int .i64 0, .bool false, .slice none 0 0], .agg #[.int .i64 0, .bool false, .slice none 0 0], .bool false, .int .i64 0]) (by simp [results, Try.results23, go_sem, s0, s1, s2, t0, t1, t2]) rfl key
  · have hn1 : ((n1 : Int) == 0) = false := beq_eq_false_iff_ne.2 (by omega)
    obtain ⟨k, hk⟩ : ∃ k, n1 = k + 1 := ⟨n1 - 1, by omega⟩
    have hn9 : n1 ≤ 1000 := Nat.le_trans HO1.out.2.1.len HKM.out.1
    have hkp : (n1 : Int) - 1 = (k : Int) := by omega
    have hwp : IntKind.i64.wrap (k : Int) = (k : Int) := IntWalk.i64_in _ (by omega)
    have hki : (k : Int) < (n1 : Int) := by omega
    have hk0 : (0 : Int) ≤ (k : Int) := by omega
    have h0i : (0 : Int) < (n1 : Int) := by omega
    have h0n : 0 < n1 := by omega
    have HKk := Lib.hid hk
    clear hk
    obtain ⟨R, rfl, hR1, hR2, _⟩ := HO1.out.2.1.row.some_ (by omega)
    obtain ⟨a, ha⟩ : ∃ p, qs[0]? = some p := ⟨qs[0]'(by omega), by simp⟩
    obtain ⟨b, hb⟩ : ∃ p, qs[k]? = some p := ⟨qs[k]'(by omega), by simp⟩
    have HAa := Lib.hid ha
    have HAb := Lib.hid hb
    have HRa := Lib.hid (HO1.out.2.1.row.cells_at ha)
    have HRb := Lib.hid (HO1.out.2.1.row.cells_at hb)
    have HGa := Lib.hid (HO1.out.2.1.gd a (List.mem_of_getElem? ha))
    have HGb := Lib.hid (HO1.out.2.1.gd b (List.mem_of_getElem? hb))
    have HKa := Lib.hid (HO1.out.2.1.set.kid a (List.mem_of_getElem? ha)).a
    have HKb := Lib.hid (HO1.out.2.1.set.kid b (List.mem_of_getElem? hb)).b
    obtain ⟨⟨ai, ag, aA, an, ac, al⟩, a2⟩ := a
    obtain ⟨b1, ⟨bi, bg, bA, bn, bc, bl⟩⟩ := b
    simp only at HRa HRb
    have hBz : B + 1 + 1 < w1.heap.size := by omega
    clear ha hb
    go_upto_region 4 with fail
    clear x0 x1 x2 y0 y1 y2 f0 f1 f2 g0 g1 g2 v0
    have HV := Lib.hid HO1.out.1
    refine wp_region_R (B + 1) 12 (by kernel_rfl) (fun z9 K0 G0 => ?_)
    refine tkW 0 (v := ?tv0_1) G0 rfl (by kernel_rfl) ?tq0_1 (by kernel_rfl) (fun z5 hS => ?ty0_1) ?_
    case ty0_1 => have q0 := (VBox.cell ((hS.block B (by omega) (fun e => by injection e with e; omega)).trans HV.out)).1; go_simp; rfl
    case tq0_1 => exact fun _ _ _ h => h
    refine tkW 1 (v := ?tv1_2) G0 rfl (by kernel_rfl) ?tq1_2 (by kernel_rfl) (fun z5 hS => ?ty1_2) ?_
    case ty1_2 => go_simp; rfl
    case tq1_2 => exact fun _ _ _ h => h
    refine tkW 2 (v := ?tv2_3) G0 rfl (by kernel_rfl) ?tq2_3 (by kernel_rfl) (fun z5 hS => ?ty2_3) ?_
    case ty2_3 => go_simp; rfl
    case tq2_3 => exact fun _ _ _ h => h
    refine tkW 3 (v := ?tv3_4) G0 rfl (by kernel_rfl) ?tq3_4 (by kernel_rfl) (fun z5 hS => ?ty3_4) ?_
    case ty3_4 => have cg : ∀ j, _ := fun j => World.cell?_of_block (a := ⟨R, j, none⟩) (hS.block R hR2 (fun e => by injection e with e; omega)); obtain ⟨q0, q1, q2, q3, q4, q5⟩ := HRa.out; rw [← cg] at q0 q1 q2 q3 q4 q5; clear cg; (try simp only [Nat.zero_mul, Nat.zero_add] at q0 q1 q2 q3 q4 q5); go_simp; rfl
    case tq3_4 => exact fun _ _ _ h => h
    refine tkW 4 (v := ?tv4_5) G0 rfl (by kernel_rfl) ?tq4_5 (by kernel_rfl) (fun z5 hS => ?ty4_5) ?_
    case ty4_5 => have q0 := (VBox.cell ((hS.block B (by omega) (fun e => by injection e with e; omega)).trans HV.out)).1; go_simp; rfl
    case tq4_5 => exact fun _ _ _ h => h
    refine tkW 5 (v := ?tv5_6) G0 rfl (by kernel_rfl) ?tq5_6 (by kernel_rfl) (fun z5 hS => ?ty5_6) ?_
    case ty5_6 => have q0 := (VBox.cell ((hS.block B (by omega) (fun e => by injection e with e; omega)).trans HV.out)).1; go_simp; rfl
    case tq5_6 => exact fun _ _ _ h => h
    refine tkW 6 (v := ?tv6_7) G0 rfl (by kernel_rfl) ?tq6_7 (by kernel_rfl) (fun z5 hS => ?ty6_7) ?_
    case ty6_7 => go_simp; rfl
    case tq6_7 => exact fun _ _ _ h => h
    refine tkW 7 (v := ?tv7_8) G0 rfl (by kernel_rfl) ?tq7_8 (by kernel_rfl) (fun z5 hS => ?ty7_8) ?_
    case ty7_8 => go_simp; rfl
    case tq7_8 => exact fun _ _ _ h => h
    refine tkW 8 (v := ?tv8_9) G0 rfl (by kernel_rfl) ?tq8_9 (by kernel_rfl) (fun z5 hS => ?ty8_9) ?_
    case ty8_9 => go_simp; rfl
    case tq8_9 => exact fun _ _ _ h => h
    refine tkW 9 (v := ?tv9_10) G0 rfl (by kernel_rfl) ?tq9_10 (by kernel_rfl) (fun z5 hS => ?ty9_10) ?_
    case ty9_10 => go_simp; rfl
    case tq9_10 => exact fun _ _ _ h => h
    refine tkW 10 (v := ?tv10_11) G0 rfl (by kernel_rfl) ?tq10_11 (by kernel_rfl) (fun z5 hS => ?ty10_11) ?_
    case ty10_11 => have cg : ∀ j, _ := fun j => World.cell?_of_block (a := ⟨R, j, none⟩) (hS.block R hR2 (fun e => by injection e with e; omega)); obtain ⟨q0, q1, q2, q3, q4, q5⟩ := HRb.out; rw [← cg] at q0 q1 q2 q3 q4 q5; clear cg; (try simp only [Nat.zero_mul, Nat.zero_add] at q0 q1 q2 q3 q4 q5); go_simp; rfl
    case tq10_11 => exact fun _ _ _ h => h
    have HF1 := Lib.hid (HE1.out.below K0)
    have HF2 := Lib.hid (HE2.out.below K0)
    obtain ⟨x0, x1, x2⟩ := HF1.out.cells
    obtain ⟨y0, y1, y2⟩ := HF2.out.cells
    obtain ⟨f0, f1, f2⟩ := HF1.out.frozens
    obtain ⟨g0, g1, g2⟩ := HF2.out.frozens
    have HK9 := Lib.hid K0
    have HS1 := Lib.hid (HF1.out.set3 ⟨ai, ag, aA, an, ac, al⟩)
    have HF3 := Lib.hid (EBox.gro HF2.out HS1.out.2 (by omega))
    have HS2 := Lib.hid (HF3.out.set3 ⟨bi, bg, bA, bn, bc, bl⟩)
    refine wpAnyW_one (i := 11) (by kernel_rfl) rfl (fun K hK => ?_)
    go_simp
    refine hK.out _ _ (fun _ => ?_) ?_
    · exact gb_setCell (gb_setCell (gb_setCell G0 0 _) 1 _) 2 _
    refine wpAnyW_one (i := 12) (by kernel_rfl) rfl (fun K hK => ?_)
    go_simp
    refine hK.out _ _ (fun h => absurd h (by simp)) ?_
    refine wpAnyW_one (i := 13) (by kernel_rfl) rfl (fun K hK => ?_)
    go_simp
    refine hK.out _ _ (fun h => absurd h (by simp)) ?_
    refine wpAnyW_one (i := 14) (by kernel_rfl) rfl (fun K hK => ?_)
    go_simp
    refine hK.out _ _ (fun h => absurd h (by simp)) ?_
    refine wpAnyW_done (by kernel_rfl) ?_ _
    clear K0 G0 x0 x1 x2 y0 y1 y2 f0 f1 f2 g0 g1 g2
    have HS3 := Lib.hid (EBox.gro HS1.out.1 HS2.out.2 (by omega))
    have HX1 := Lib.hid HS1.out.2
    have HX2 := Lib.hid HS2.out
    clear HS1 HS2 HF3 HF1 HF2
    simp only at HS3 HX1 HX2
    generalize ((z9.setCell ⟨B + 1, 0, none⟩ (.int .i64 ai)).setCell ⟨B + 1, 1, none⟩ (.bool ag)).setCell ⟨B + 1, 2, none⟩ (.slice aA an ac) = y1 at *
    generalize ((y1.setCell ⟨B + 1 + 1, 0, none⟩ (.int .i64 bi)).setCell ⟨B + 1 + 1, 1, none⟩ (.bool bg)).setCell ⟨B + 1 + 1, 2, none⟩ (.slice bA bn bc) = y2 at *
    obtain ⟨s0, s1, s2⟩ := HS3.out.cells
    obtain ⟨t0, t1, t2⟩ := HX2.out.1.cells
    simp only at s0 s1 s2 t0 t1 t2
    have zz1 := HK9.out.size
    have zz2 := HX1.out.size
    have zz3 := HX2.out.2.size
    have hsame : ∀ x, B + 4 ≤ x → x < w1.heap.size → y2.heap[x]? = w1.heap[x]? := fun x h1 h2 => ((HX2.out.2.block x (by omega) (fun e => by injection e with e; omega)).trans (HX1.out.block x (by omega) (fun e => by injection e with e; omega))).trans (HK9.out.block x h2)
    have HAt := Lib.hid (And.intro (HKa.out.keep (Q := Fr B y2) (fun x hx => ⟨⟨by have := hx.1; omega, by have := hx.2; omega⟩, hsame x hx.1 hx.2⟩)) (HKb.out.keep (Q := Fr B y2) (fun x hx => ⟨⟨by have := hx.1; omega, by have := hx.2; omega⟩, hsame x hx.1 hx.2⟩)))
    have HBy := Lib.hid (((HBe1.out.trans (HK9.out.mono (by omega))).grown HX1.out (by have := HB.out; omega) (fun j e => by injection e with e; have := HB.out; omega)).grown HX2.out.2 (by have := HB.out; omega) (fun j e => by injection e with e; have := HB.out; omega))
    have key : (∃ N, NF N ∧ (∀ z, Hf.mem z N ↔ Hf.mem z (ps.map edsR)) ∧ Below B w y2 ∧
        ((N = [] ∧ Ending.returned (.tuple #[.agg #[.int .i64 ai, .bool ag, .slice aA an ac], .agg #[.int .i64 bi, .bool bg, .slice bA bn bc], .bool true, .int .i64 0]) = .returned (.tuple #[(ib 0).v, (ib 0).v, .bool false, .int .i64 0])) ∨
         (∃ r s a b, N[0]? = some r ∧ N[N.length - 1]? = some s ∧ Bd.ed a = r.1 ∧ Bd.ed b = s.2 ∧ a.Nrm ∧ b.Nrm ∧ a.At y2 (Fr B y2) ∧ b.At y2 (Fr B y2) ∧ Ending.returned (.tuple #[.agg #[.int .i64 ai, .bool ag, .slice aA an ac], .agg #[.int .i64 bi, .bool bg, .slice bA bn bc], .bool true, .int .i64 0]) = .returned (.tuple #[a.v, b.v, .bool true, .int .i64 0])))) :=
      ⟨qs.map edsR, HO1.out.2.1.nf, HO1.out.2.2, HBy.out, .inr ⟨_, _, ⟨ai, ag, aA, an, ac, al⟩, ⟨bi, bg, bA, bn, bc, bl⟩, by rw [List.getElem?_map, HAa.out]; rfl, by rw [List.getElem?_map, List.length_map, hlq, show n1 - 1 = k by have := HKk.out; omega, HAb.out]; rfl, rfl, rfl, HGa.out.1.1, HGb.out.1.2, HAt.out.1, HAt.out.2, rfl⟩⟩
    go_wp2_with fail
    exact bodyPost_ret (v := .tuple #[.agg #[.int .i64 ai, .bool ag, .slice aA an ac], .agg #[.int .i64 bi, .bool bg, .slice bA bn bc], .bool true, .int .i64 0]) (by simp [results, Try.results23, go_sem, s0, s1, s2, t0, t1, t2]) rfl key
end Go.Proofs.Ytpikjceodmepiaa
