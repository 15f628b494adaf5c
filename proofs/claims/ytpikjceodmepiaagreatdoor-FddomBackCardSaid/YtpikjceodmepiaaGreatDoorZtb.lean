import Derived.Test.YtpikjceodmepiaaGreatDoorZsb
set_option linter.unusedVariables false
set_option linter.unusedSimpArgs false
namespace Go.Proofs.YtpikjceodmepiaaGreatDoor
open Go.RowKit Hb Hf
set_option linter.unusedVariables false
set_option linter.unusedSimpArgs false
attribute [local go_sem ↓] Go.wp_at_zero Go.wp_at_succ
/-! ### Shift -/
theorem ival_len {g : Bool} {l : List Nat} {n : Nat} {z : Int} (hd : Dig W l) (hl : l.length = n) (hz : ival g l = z) : (digs W z.natAbs).length ≤ n := by
  refine digs_length_le (by decide) ?_
  have h1 := nv_lt hd
  rw [hl] at h1
  rw [← hz]
  unfold ival
  split
  · rw [Int.natAbs_neg, Int.natAbs_natCast]; exact h1
  · rw [Int.natAbs_natCast]; exact h1
theorem szE_sh {e : Ed} {z : Int} {M : Nat} (h : szE e ≤ M) (hz : (digs W z.natAbs).length ≤ M) : szE (shE z e) ≤ M + 1 := by
  cases e with
  | num x => exact len_add h hz
  | lo => simp [shE, szE]
  | hi => simp [shE, szE]
def ShiftPost (w : World) (L : List R) (z : Int) (K M : Nat) (e : Ending) (w' : World) : Prop :=
  ∃ A m c qs, e = .returned (.tuple #[.slice A m c, .int .i64 0]) ∧ SOut w' w.heap.size A m c qs K M ∧ (∀ k, Hf.mem k (qs.map edsR) ↔ Hf.mem (k - z) L) ∧ Below w.heap.size w w'
/-- the loop's head -/
structure SH (w : World) (B n1 c1 n' c' : Nat) (g : Bool) (A1 A' : Option Addr) (z : Int) (qs : List Rg) (k : Nat) (rs : List Rg) (wr : World) : Prop where
  bel : Below B w wr
  box : VBox wr B A1 n1 c1
  int : IBox wr (B + 1) g (.slice A' n' c')
  lt : B + 4 ≤ wr.heap.size
  row : RRow wr (B + 4) (Fr (B + 4) wr) A1 n1 c1 rs
  gd : ∀ q ∈ rs, Gd q
  eds : rs.map edsR = ((qs.take k).map edsR).map (shR z) ++ (qs.drop k).map edsR
  same : rs.drop k = qs.drop k
set_option maxRecDepth 100000 in
set_option maxHeartbeats 8000000 in
theorem Shift_ok {w : World} {P : Nat → Prop} {A A' : Option Addr} {n c n' c' K M : Nat} {g : Bool} {l : List Nat} {ps : List Rg} {z : Int} (h : SIn w P A n c ps K M) (hl : LimP w P A' n' c' l) (hP : ∀ b, P b → b < w.heap.size) (hK : K ≤ 1000) (hM : M + 1 ≤ 128) (hnM : n' ≤ M) (hz : ival g l = z) :
    Calls Tryz.prog 18 #[.slice A n c, .agg #[.bool g, .slice A' n' c']] w (ShiftPost w (ps.map edsR) z K (M + 1)) := by
  obtain ⟨B, hB⟩ : ∃ B, w.heap.size = B := ⟨_, rfl⟩
  have HB := Lib.hid hB
  have HT := Lib.hid (V3_take (g := g) h hl (by omega) hP hK (by omega))
  have HKM := Lib.hid (And.intro hK (And.intro hM hnM))
  have HP := Lib.hid hP
  have HL := Lib.hid hl
  have HV := Lib.hid hz
  have HZl := Lib.hid (Nat.le_trans (ival_len hl.dig hl.len hz) hnM)
  unfold ShiftPost
  rw [hB]
  unfold V3 at HT
  rw [hB] at HT
  clear h hl hP hK hM hnM hB hz
  go_enter Tryz.func18, Tryz.ntmps18
  go_wp2_with fail
  rw [HB.out]
  (with_reducible refine HT.out.mono ?_)
  rintro e w1 ⟨rfl, hb1, hz1, hi1, A1, n1, c1, qs, hv1, ho1, hm1⟩
  have HB1 := Lib.hid hb1
  have HZ1 := Lib.hid hz1
  have HM1 := Lib.hid hm1
  have HSC := Lib.hid (show SH w B n1 c1 n' c' g A1 A' z qs 0 qs w1 from
    ⟨hb1, hv1, hi1, hz1, ho1.row, ho1.gd, by simp, rfl⟩)
  have HLq := Lib.hid (show qs.length = n1 ∧ n1 ≤ K ∧ n1 ≤ 1000 from ⟨ho1.row.len, ho1.len, Nat.le_trans ho1.len HKM.out.1⟩)
  have hn9 : n1 ≤ 1000 := HLq.out.2.2
  have HNf := Lib.hid (And.intro ho1.nf (And.intro ho1.bnd hm1))
  obtain ⟨v0, _⟩ := hv1.cell
  clear hb1 hz1 hi1 hv1 ho1 hm1 HT
  go_wp2_with fail
  clear v0 HB1 HM1 HZ1
  go_loopw [20] (fun vi wr => ∃ k rs, k ≤ n1 ∧ vi = .int .i64 (k : Nat) ∧ Hid (SH w B n1 c1 n' c' g A1 A' z qs k rs wr)) (fun vi _ => n1 - (intOf vi).toNat)
  case atStart => exact ⟨0, qs, Nat.zero_le _, rfl, HSC⟩
  case round =>
    obtain ⟨k, rs, hk, rfl, HI⟩ := hrel
    clear HSC
    by_cases hkn : k < n1
    · have hlr := HI.out.row.len
      obtain ⟨R, rfl, hR1, hR2, _⟩ := HI.out.row.some_ (by omega)
      obtain ⟨p, hp⟩ : ∃ p, rs[k]? = some p := ⟨rs[k]'(by omega), by simp⟩
      have HPq := Lib.hid (show qs[k]? = some p from by
        have h1 : (rs.drop k)[0]? = some p := by rw [List.getElem?_drop]; exact hp
        rw [HI.out.same, List.getElem?_drop] at h1
        exact h1)
      have HPr := Lib.hid hp
      obtain ⟨i0, i1, i2, i3, i4, i5⟩ := HI.out.row.cells_at hp
      have hpm := List.mem_of_getElem? hp
      have HGd := Lib.hid (HI.out.gd p hpm)
      have HKp := Lib.hid (HI.out.row.kid p hpm)
      have hX := RBox.new wr p
      have HBx := Lib.hid (show Below wr.heap.size wr (wr.alloc (.cells (cells6 p).toArray 69)) from (Below.refl _ _).alloc (Nat.le_refl _) _)
      obtain ⟨⟨p1i, p1g, p1A, p1n, p1c, p1l⟩, ⟨p2i, p2g, p2A, p2n, p2c, p2l⟩⟩ := p
      have HX := Lib.hid hX
      simp only [cells6_eq] at HX HBx
      simp only at i0 i1 i2 i3 i4 i5
      have hki : (k : Int) < (n1 : Int) := by omega
      have hk0 : (0 : Int) ≤ (k : Int) := by omega
      have hlt := HI.out.lt
      clear hp hX hlr
      go_upto_region 8 with fail
      have HKa := Lib.hid (show Bd.At wr (fun x => x < wr.heap.size) ⟨p1i, p1g, p1A, p1n, p1c, p1l⟩ from HKp.out.a.wide (fun b hb => hb.1.2))
      have HKb := Lib.hid (show Bd.At wr (fun x => x < wr.heap.size) ⟨p2i, p2g, p2A, p2n, p2c, p2l⟩ from HKp.out.b.wide (fun b hb => hb.1.2))
      have hM1 : p1n ≤ M ∧ p2n ≤ M := by
        have h1 := HNf.out.2.1 _ (List.mem_map.2 ⟨_, List.mem_of_getElem? HPq.out, rfl⟩)
        have h2 := HGd.out.1.1.szE HKa.out.lim.len
        have h3 := HGd.out.1.2.szE HKb.out.lim.len
        simp only at h2 h3
        rw [h2, h3]
        exact h1
      have HLw := Lib.hid (fun y (hy : Below wr.heap.size wr y) => show LimP y (fun x => x < y.heap.size) A' n' c' l from
        HL.out.keep (fun b hb => ⟨by have := HP.out b hb; have := HI.out.bel.size; have := hy.size; have := HB.out; omega, ((HI.out.bel.trans (hy.mono (by have := HI.out.bel.size; have := HB.out; omega))).block b (by have := HP.out b hb; have := HB.out; omega))⟩))
      have HTm1 := Lib.hid (fun y (hy : Below wr.heap.size wr y) => move_ok (w := y) (Gn := B + 1) (HKa.out.keep (Q := fun x => x < y.heap.size) (fun x hx => ⟨by have := hy.size; omega, hy.block x hx⟩)) (fun _ h => h) HGd.out.1.1
        (HI.out.int.below hy) (HLw.out y hy) HV.out (by have := HKM.out.2; simp only; omega) (by have := HKM.out.2; omega))
      have HTm2 := Lib.hid (fun y (hy : Below wr.heap.size wr y) => move_ok (w := y) (Gn := B + 1) (HKb.out.keep (Q := fun x => x < y.heap.size) (fun x hx => ⟨by have := hy.size; omega, hy.block x hx⟩)) (fun _ h => h) HGd.out.1.2
        (HI.out.int.below hy) (HLw.out y hy) HV.out (by have := HKM.out.2; simp only; omega) (by have := HKM.out.2; omega))
      simp only [Bd.v, Bd.vals] at HTm1 HTm2
      have HV5 := Lib.hid (show VBox _ B (some ⟨R, 0, none⟩) n1 c1 from (HBx.out.block B HI.out.box.lt).trans HI.out.box)
      clear i0 i1 i2 i3 i4 i5 hpm
      generalize (wr.alloc (.cells #[.int .i64 p1i, .bool p1g, .slice p1A p1n p1c, .int .i64 p2i, .bool p2g, .slice p2A p2n p2c] 69)) = w5 at *
      refine wp_region_U 12 (by kernel_rfl) (fun z9 K0 hs0 => ?_)
      refine tkW 0 (v := ?tv0_1) K0 rfl (by kernel_rfl) ?tq0_1 (by kernel_rfl) (fun z5 hS => ?ty0_1) ?_
      case ty0_1 => have q0 := (VBox.cell ((hS.block B HV5.out.lt).trans HV5.out)).1; go_simp; rfl
      case tq0_1 => exact fun _ _ _ h => h
      refine tkW 1 (v := ?tv1_2) K0 rfl (by kernel_rfl) ?tq1_2 (by kernel_rfl) (fun z5 hS => ?ty1_2) ?_
      case ty1_2 => go_simp; rfl
      case tq1_2 => exact fun _ _ _ h => h
      refine tkW 2 (v := ?tv2_3) K0 rfl (by kernel_rfl) ?tq2_3 (by kernel_rfl) (fun z5 hS => ?ty2_3) ?_
      case ty2_3 => go_simp; rfl
      case tq2_3 => exact fun _ _ _ h => h
      refine tkW 3 (v := ?tv3_4) K0 rfl (by kernel_rfl) ?tq3_4 (by kernel_rfl) (fun z5 hS => ?ty3_4) ?_
      case ty3_4 => go_simp; rfl
      case tq3_4 => exact fun _ _ _ h => h
      refine tkW 4 (v := ?tv4_5) K0 rfl (by kernel_rfl) ?tq4_5 (by kernel_rfl) (fun z5 hS => ?ty4_5) ?_
      case ty4_5 => obtain ⟨x0, x1, x2, x3, x4, x5⟩ := (HX.out.below hS).cells; simp only at x0 x1 x2 x3 x4 x5; go_simp; rfl
      case tq4_5 => exact fun _ _ _ h => h
      refine tkW 6 (v := ?tv6_6) K0 rfl (by kernel_rfl) ?tq6_6 (by kernel_rfl) (fun z5 hS => ?ty6_6) ?_
      case ty6_6 => go_simp; rfl
      case tq6_6 => exact fun _ _ _ h => h
      refine tkW 7 (v := ?tv7_7) K0 rfl (by kernel_rfl) ?tq7_7 (by kernel_rfl) (fun z5 hS => ?ty7_7) ?_
      case ty7_7 => go_simp; rfl
      case tq7_7 => exact fun _ _ _ h => h
      refine tkW 8 (v := ?tv8_8) K0 rfl (by kernel_rfl) ?tq8_8 (by kernel_rfl) (fun z5 hS => ?ty8_8) ?_
      case ty8_8 => obtain ⟨x0, x1, x2, x3, x4, x5⟩ := (HX.out.below hS).cells; simp only at x0 x1 x2 x3 x4 x5; go_simp; rfl
      case tq8_8 => exact fun _ _ _ h => h
      refine wpAnyW_one (i := 5) (by kernel_rfl) rfl (fun K hK => ?_)
      go_simp
      (with_reducible refine (HTm1.out z9 (HBx.out.trans (K0.mono HBx.out.size))).mono ?_)
      rintro e u1 ⟨⟨ai, ag, aA, an, ac, al⟩, rfl, hat1, hnr1, hed1, hb1⟩
      have K1 := K0.trans (hb1.mono K0.size)
      refine hK.out _ _ (fun _ => K1) ?_
      refine wpAnyW_one (i := 9) (by kernel_rfl) rfl (fun K hK => ?_)
      go_simp
      (with_reducible refine (HTm2.out u1 (HBx.out.trans (K1.mono HBx.out.size))).mono ?_)
      rintro e u2 ⟨⟨ei, eg, eA, en, ec, el⟩, rfl, hat2, hnr2, hed2, hb2⟩
      have K2 := K1.trans (hb2.mono K1.size)
      refine hK.out _ _ (fun _ => K2) ?_
      simp only [Bd.v, Bd.vals]
      refine tkW 10 (v := ?tv10_9) K2 rfl (by kernel_rfl) ?tq10_9 (by kernel_rfl) (fun z5 hS => ?ty10_9) ?_
      case ty10_9 => go_simp; rfl
      case tq10_9 => exact fun _ _ _ h => h
      have HBu := Lib.hid (HBx.out.trans (K2.mono HBx.out.size))
      have hz5 := HBx.out.size
      have hz9 := K0.size
      have HQ := Lib.hid (show Rg.At u2 (fun x => wr.heap.size ≤ x ∧ x < u2.heap.size) (⟨ai, ag, aA, an, ac, al⟩, ⟨ei, eg, eA, en, ec, el⟩) from
        ⟨hat1.keep (fun x hx => ⟨⟨by have := hx.1; omega, by have := hx.2; have := hb2.size; omega⟩, hb2.block x hx.2⟩), hat2.keep (fun x hx => ⟨⟨by have := hx.1; have := hb1.size; omega, hx.2⟩, rfl⟩)⟩)
      have HRw := Lib.hid (HI.out.row.fr HBu.out)
      have HQa := Lib.hid (HI.out.row.apart (by omega) (Nat.le_refl _) HQ.out)
      have HV6 := Lib.hid (show VBox u2 B (some ⟨R, 0, none⟩) n1 c1 from (HBu.out.block B HI.out.box.lt).trans HI.out.box)
      have HEd := Lib.hid (show edsR ((⟨ai, ag, aA, an, ac, al⟩, ⟨ei, eg, eA, en, ec, el⟩) : Rg) = shR z (edsR ((⟨p1i, p1g, p1A, p1n, p1c, p1l⟩, ⟨p2i, p2g, p2A, p2n, p2c, p2l⟩) : Rg)) from by unfold edsR shR; rw [hed1, hed2])
      have HNr := Lib.hid (And.intro hnr1 hnr2)
      have HPut := Lib.hid (RRow.put6 HRw.out (fun b hb => hb.2) HPr.out HQa.out)
      have fz := RRow.frozen HRw.out
      have fz0 := fz (k * 6)
      have fz1 := fz (k * 6 + 1)
      have fz2 := fz (k * 6 + 2)
      have fz3 := fz (k * 6 + 3)
      have fz4 := fz (k * 6 + 4)
      have fz5 := fz (k * 6 + 5)
      obtain ⟨c0, c1', c2, c3, c4, c5⟩ := HRw.out.cells_at HPr.out
      simp only at c0 c1' c2 c3 c4 c5
      clear K1 hb1 hb2 hat1 hat2 hnr1 hnr2 hed1 hed2 K0 hs0 HTm1 HTm2 HKa HKb HLw fz
      refine wpAnyW_one (i := 11) (by kernel_rfl) rfl (fun K hK => ?_)
      go_simp
      refine hK.out _ _ (fun _ => K2) ?_
      refine wpAnyW_one (i := 12) (by kernel_rfl) rfl (fun K hK => ?_)
      go_simp
      refine hK.out _ _ (fun h => absurd h (by simp)) ?_
      refine wpAnyW_done (by kernel_rfl) ?_ _
      have hz2 := HBu.out.size
      have HG6 := Lib.hid HPut.out.2
      have HR6 := Lib.hid (HPut.out.1)
      clear HPut HQa HRw fz0 fz1 fz2 fz3 fz4 fz5 c0 c1' c2 c3 c4 c5 K2 HV5 HX
      simp only at HR6 HG6
      generalize ((((((u2.setCell ⟨R, k * 6, none⟩ (.int .i64 ai)).setCell ⟨R, k * 6 + 1, none⟩ (.bool ag)).setCell ⟨R, k * 6 + 2, none⟩ (.slice aA an ac)).setCell ⟨R, k * 6 + 3, none⟩ (.int .i64 ei)).setCell ⟨R, k * 6 + 4, none⟩ (.bool eg)).setCell ⟨R, k * 6 + 5, none⟩ (.slice eA en ec)) = u6 at *
      have hz6 := HG6.out.size
      have HRow := Lib.hid (HR6.out.wide (Q := Fr (B + 4) u6) (fun b hb => ⟨hb.1, by have := hb.2; omega⟩))
      have HBl := Lib.hid (show Below B w u6 from (HI.out.bel.trans (HBu.out.mono (by have := HI.out.bel.size; have := HB.out; omega))).grown HG6.out (by have := HI.out.bel.size; have := HB.out; omega) (fun j e => by injection e with e; omega))
      have HVx := Lib.hid (show VBox u6 B (some ⟨R, 0, none⟩) n1 c1 from (HG6.out.block B HV6.out.lt (fun e => by injection e with e; omega)).trans HV6.out)
      have HIx := Lib.hid ((HI.out.int.below HBu.out).gro HG6.out (by omega))
      have hlr := HI.out.row.len
      have hkr : k < rs.length := by omega
      have HGq := Lib.hid (show Gd ((⟨ai, ag, aA, an, ac, al⟩, ⟨ei, eg, eA, en, ec, el⟩) : Rg) from by
        have hb := HNf.out.2.1 _ (List.mem_map.2 ⟨_, List.mem_of_getElem? HPq.out, rfl⟩)
        have e1 : Bd.ed ⟨ai, ag, aA, an, ac, al⟩ = _ := congrArg Prod.fst HEd.out
        have e2 : Bd.ed ⟨ei, eg, eA, en, ec, el⟩ = _ := congrArg Prod.snd HEd.out
        have s1 : szE (Bd.ed ⟨ai, ag, aA, an, ac, al⟩) ≤ 33554432 := by
          rw [e1]
          refine Nat.le_trans (szE_sh hb.1 HZl.out) ?_
          have := HKM.out.2; omega
        have s2 : szE (Bd.ed ⟨ei, eg, eA, en, ec, el⟩) ≤ 33554432 := by
          rw [e2]
          refine Nat.le_trans (szE_sh hb.2 HZl.out) ?_
          have := HKM.out.2; omega
        exact Gd.mk' HQ.out HNr.out.1 HNr.out.2 s1 s2)
      clear HV6 HBu
      go_wp2_with fail
      go_roundw
      case rel =>
        refine ⟨k + 1, rs.set k ((⟨ai, ag, aA, an, ac, al⟩, ⟨ei, eg, eA, en, ec, el⟩) : Rg), by omega, by go_num, Lib.hid ⟨HBl.out, HVx.out, HIx.out, by omega, HRow.out, fun q hq => ?_, ?_, ?_⟩⟩
        · rcases List.mem_or_eq_of_mem_set hq with h1 | h1
          · exact HI.out.gd q h1
          · rw [h1]; exact HGq.out
        · exact eds_step HI.out.eds HPq.out HEd.out
        · exact sc_drop HI.out.same
      case measure => simp [intOf]; omega

    · have hkk : n1 = k := by omega
      subst hkk
      have hlr := HI.out.row.len
      have hki : ¬ ((n1 : Int) < (n1 : Int)) := by omega
      have HEe := Lib.hid (show rs.map edsR = (qs.map edsR).map (shR z) from by
        have h1 := HI.out.eds
        rw [List.take_of_length_le (Nat.le_of_eq HLq.out.1), List.drop_of_length_le (Nat.le_of_eq HLq.out.1)] at h1
        rw [h1]
        simp)
      have HBn := Lib.hid (show Bnd (M + 1) (rs.map edsR) from by
        rw [HEe.out]
        intro r hr
        obtain ⟨r0, h1, rfl⟩ := List.mem_map.1 hr
        have h2 := HNf.out.2.1 r0 h1
        exact ⟨szE_sh h2.1 HZl.out, szE_sh h2.2 HZl.out⟩)
      have HGi := Lib.hid (give_ok (w := wr) (HI.out.row.set (fun b h1 h2 => ⟨h1, h2⟩)) (fun b hb => hb.2) (fun q hq => ⟨fun _ => (HI.out.gd q hq).2.1, fun _ => (HI.out.gd q hq).2.2⟩) hn9 HBn.out HKM.out.2.1)
      obtain ⟨v0, _⟩ := HI.out.box.cell
      go_wp2_with (go_at_call 52; (with_reducible refine HGi.out.mono ?_); rintro e w3 ⟨A4, n4, c4, q4, w4, rfl, hres, hb3⟩; have HR := Lib.hid hres; have HB3 := Lib.hid hb3; clear hres hb3)
      obtain ⟨r1, r2, r3, r4, r5, r6, r7⟩ := HR.out
      have s1 := HI.out.bel.size
      have s3 := r7.size
      have hlt := HI.out.lt
      have hBB := HB.out
      have key : (∃ A m c qs, Ending.returned (.tuple #[.slice A4 n4 c4, .int .i64 0]) = .returned (.tuple #[.slice A m c, .int .i64 0]) ∧ SOut w3 B A m c qs K (M + 1) ∧ (∀ k, Hf.mem k (qs.map edsR) ↔ Hf.mem (k - z) (ps.map edsR)) ∧ Below B w w3) :=
        ⟨A4, n4, c4, q4, rfl, ((⟨r1, r2, r3, by have := HLq.out.2.1; omega, Bnd.ends HBn.out r5⟩ : SOut w4 wr.heap.size A4 n4 c4 q4 K (M + 1)).below HB3.out).lower (by omega), fun k => by rw [r4 k, HEe.out, mem_sh]; exact HNf.out.2.2 _, (HI.out.bel.trans (r7.mono (by omega))).trans (HB3.out.mono (by omega))⟩
      first
        | (go_ret; exact key)
        | exact bodyPost_ret (v := .tuple #[.slice A4 n4 c4, .int .i64 0]) (by simp [results, Tryz.results18, go_sem]) rfl key
end Go.Proofs.YtpikjceodmepiaaGreatDoor

