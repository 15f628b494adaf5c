import Derived.Test.YtggdmhkdmkldoaaBu
namespace Go.Proofs.Ytggdmhkdmkldoaa
open Go.RowKit Hb

/-- two results stored into two variables of the call's own -/
theorem QRPost.ok {w w2 : World} {base g h : Nat} {v1 v2 u1 u2 u3 u4 : Value} {z1 z2 co : Int} (hco : co = 0) (h1 : ResI w2 base v1 z1) (h2 : ResI w2 base v2 z2) (ha : Apart v1 v2) (hb : Below w.heap.size w w2) (hg : g < base) (hh : h < base) (hwg : w.heap.size ≤ g) (hwh : w.heap.size ≤ h) :
    QRPost w z1 z2 co (.returned (.tuple #[v1, v2, .int .i64 0])) ((((w2.setCell ⟨g, 0, none⟩ u1).setCell ⟨g, 1, none⟩ u2).setCell ⟨h, 0, none⟩ u3).setCell ⟨h, 1, none⟩ u4) := by
  subst hco
  have key : ∀ (wx : World) (v : Value) (z : Int) (p : Addr) (u : Value), ResI wx base v z → p.block < base → ResI (wx.setCell p u) base v z := by
    rintro wx v z p u ⟨A, c, hv, ho⟩ hp
    refine ⟨A, c, hv, ho.far ?_ _⟩
    intro g' hA
    rcases ho.form with ⟨h1, _⟩ | ⟨g2, h1, h2, _⟩
    · rw [h1] at hA; cases hA
    · rw [h1] at hA
      injection hA with hA
      injection hA with hA
      omega
  refine ⟨v1, v2, rfl, fun _ => ⟨?_, ?_, ha⟩, fun h => absurd rfl h, (((hb.setCell hwg _).setCell hwg _).setCell hwh _).setCell hwh _⟩
  · exact (key _ _ _ _ _ (key _ _ _ _ _ (key _ _ _ _ _ (key _ _ _ _ _ h1 hg) hg) hh) hh).mono (by omega)
  · exact (key _ _ _ _ _ (key _ _ _ _ _ (key _ _ _ _ _ (key _ _ _ _ _ h2 hg) hg) hh) hh).mono (by omega)
theorem ResI.apart {A1 A2 : Option Addr} {b1 b2 : Bool} {k1 c1 k2 c2 : Nat} {B : Nat} {w w' : World} {n1 n2 d1 d2 : Nat} {l1 l2 : List Value} (h1 : OwnU w B A1 n1 d1 l1) (h2 : OwnU w' B A2 n2 d2 l2) (h : A1 = none ∨ A1 ≠ A2) : Apart (.agg #[.bool b1, .slice A1 k1 c1]) (.agg #[.bool b2, .slice A2 k2 c2]) := by
  rintro g ⟨b, o, n, c, e1⟩ ⟨b', o', n', c', e2⟩
  have f1 := congrArg (fun v => match v with | Value.agg cs => cs[1]? | _ => none) e1
  have f2 := congrArg (fun v => match v with | Value.agg cs => cs[1]? | _ => none) e2
  simp at f1 f2
  obtain ⟨rfl, _⟩ := f1
  obtain ⟨rfl, _⟩ := f2
  rcases h1.form with ⟨h3, _⟩ | ⟨g1, h3, _⟩
  · cases h3
  · rcases h2.form with ⟨h4, _⟩ | ⟨g2, h4, _⟩
    · cases h4
    · rcases h with h | h
      · cases h
      · injection h3 with h3; injection h3 with _ h3
        injection h4 with h4; injection h4 with _ h4
        exact h (by rw [h3, h4])
/-- laid over limbs of the call's own: the value keeps its address -/
theorem laid_at (neg : Bool) {B : Nat} {A : Option Addr} {l : List Nat} {n c : Nat} {w : World} (h : OwnU w B A n c (u32s l)) (hl : l.length = n) (hd : Dig W l) {z : Int} (hz : ival neg l = z) :
    Calls Try.prog 71 #[.bool neg, .slice A n c] w fun e w' => e = .returned (.agg #[.bool (decide (z < 0)), .slice A (digs W z.natAbs).length c]) ∧ OwnU w' B A (digs W z.natAbs).length c (u32s (digs W z.natAbs)) ∧ Below w.heap.size w w' :=
  (laid_any neg (h.sl hd hl) (Nat.le_refl _)).mono fun e w' ⟨he, hb⟩ => by
    have e2 : (digs W z.natAbs).length = tlen l := by rw [← hz, ival_natAbs, ← tr_eq_digs (by decide) hd, tr_length]
    have hr := ResI.of_own neg h hl hd hb
    obtain ⟨A', c', hv, ho⟩ := hr
    rw [hz] at hv ho
    have hA : A = A' ∧ c = c' := by
      injection hv with hv
      have := congrArg (fun a => a[1]?) hv
      simp at this
      exact ⟨this.1, this.2.2⟩
    obtain ⟨rfl, rfl⟩ := hA
    exact ⟨by rw [he, hv], ho, hb⟩

attribute [local go_sem ↓] Go.wp_at_zero Go.wp_at_succ
set_option maxHeartbeats 2000000 in
theorem QuoRem_any (na nb : Bool) {B B' : Nat} {A A' : Option Addr} {l m : List Nat} {n c n' c' : Nat} {w : World} (hs : SlU w B A n c l) (ht : SlU w B' A' n' c' m) (hn : n ≤ 67108863) (hn' : n' ≤ 67108863) (hB : B ≤ w.heap.size) (hB' : B' ≤ w.heap.size) :
    Calls Try.prog 20 #[.agg #[.bool na, .slice A n c], .agg #[.bool nb, .slice A' n' c']] w (QRPost w ((ival na l).tdiv (ival nb m)) ((ival na l).tmod (ival nb m)) (if lng l || lng m then 10 else if ival nb m = 0 then 11 else 0)) := by
  have hl1 := hs.len
  have hl2 := ht.len
  have HL := Lib.hid (W5_long (na := na) (nb := nb) hs ht (by omega) (by omega) hB hB')
  have HW := Lib.hid (W5_below w na nb A A' n c n' c')
  have HK := Lib.hid (fun C w2 (hb : Below C (W5 w na nb A A' n c n' c') w2) hC => W5_cells hb hC)
  have HE := Lib.hid (fun w2 (hb : Below (w.heap.size + 1 + 1) (W5 w na nb A A' n c n' c') w2) => W5_held hb)
  have HSg := Lib.hid (fun w1 (hb : Below w.heap.size w w1) => sign_any nb (ht.below (C := w.heap.size) hb hB') (Nat.le_trans hB' hb.size))
  have hzero : ival nb m = 0 ↔ nv W m = 0 := by cases nb <;> simp [ival]
  have HDv := Lib.hid (fun (h0 : nv W m ≠ 0) w1 (hb : Below w.heap.size w w1) => divide_any (hs.below (C := w.heap.size) hb hB) (ht.below (C := w.heap.size) hb hB') hn (Nat.le_trans hB hb.size) (Nat.le_trans hB' hb.size) h0)
  generalize hco : (if lng l || lng m then (10 : Int) else if ival nb m = 0 then 11 else 0) = co
  cases hb : (lng l || lng m)
  · rw [hb] at HL hco
    clear hb
    by_cases h0 : ival nb m = 0
    · have HS0 := Lib.hid (show (ival nb m).sign = 0 by rw [h0]; rfl)
      rw [HS0.out] at HSg
      have HC := Lib.hid (show co = 11 by rw [← hco, if_pos h0]; rfl)
      clear hs ht hn hn' hB hB' hl1 hl2 hzero h0 HDv hco
      go_enter Try.func20, Try.ntmps20
      go_wp2_with fail
      refine HL.out.mono ?_
      rintro ex w3 ⟨rfl, hb3⟩
      obtain ⟨⟨q0, q1⟩, ⟨q2, q3⟩⟩ := HE.out _ (hb3.mono (by first | omega | (simp; done) | (simp; omega)))
      have H3 := Lib.hid hb3
      have HB3 := Lib.hid (HW.out.trans (hb3.mono (B' := w.heap.size) (by first | omega | (simp; done) | (simp; omega))))
      clear hb3
      go_wp2_with fail
      refine (HSg.out _ HB3.out).mono ?_
      rintro ex w4 ⟨rfl, hb4⟩
      have hz3 := H3.out.size
      simp at hz3
      obtain ⟨⟨r0, r1, r2, r3⟩, s0, s1, s2, s3⟩ := HK.out _ _ (H3.out.trans (hb4.mono (by first | omega | (simp; done) | (simp; omega)))) (by first | omega | (simp; done) | (simp; omega))
      have HB4 := Lib.hid (HB3.out.trans (hb4.mono (B' := w.heap.size) (by first | omega | (simp; done) | (simp; omega))))
      clear hb4 q0 q1 q2 q3
      go_wp2_with fail
      exact bodyPost_ret (v := .tuple #[zeroV, zeroV, .int .i64 11]) (by simp [results, Try.results20, go_sem, r0, r1, s0, s1]) rfl
        (QRPost.bad (by first | exact HC.out | rfl) (by decide) ((((HB4.out.setCell (by first | omega | (simp; done) | (simp; omega)) _).setCell (by first | omega | (simp; done) | (simp; omega)) _).setCell (by first | omega | (simp; done) | (simp; omega)) _).setCell (by first | omega | (simp; done) | (simp; omega)) _))
    · have hm0 : nv W m ≠ 0 := fun e => h0 (hzero.2 e)
      obtain ⟨sv, hsv⟩ : ∃ sv, (ival nb m).sign = sv := ⟨_, rfl⟩
      have hs0 : (sv == 0) = false := beq_eq_false_iff_ne.2 (by rw [← hsv]; exact fun e => h0 (Int.sign_eq_zero_iff_zero.1 e))
      rw [hsv] at HSg
      have HC := Lib.hid (show co = 0 by rw [← hco, if_neg h0]; rfl)
      have HD := Lib.hid (HDv.out hm0)
      have HT1 := Lib.hid (fun o (h : nv W o = nv W l / nv W m) => ival_tdiv na nb h)
      have HT2 := Lib.hid (fun o (h : nv W o = nv W l % nv W m) => ival_tmod na nb h)
      generalize (ival na l).tdiv (ival nb m) = Z1 at *
      generalize (ival na l).tmod (ival nb m) = Z2 at *
      clear hs ht hn hn' hB hB' hl1 hl2 hzero h0 HDv hsv hm0 hco
      go_enter Try.func20, Try.ntmps20
      go_wp2_with fail
      refine HL.out.mono ?_
      rintro ex w3 ⟨rfl, hb3⟩
      obtain ⟨⟨q0, q1⟩, ⟨q2, q3⟩⟩ := HE.out _ (hb3.mono (by first | omega | (simp; done) | (simp; omega)))
      have H3 := Lib.hid hb3
      have HB3 := Lib.hid (HW.out.trans (hb3.mono (B' := w.heap.size) (by first | omega | (simp; done) | (simp; omega))))
      have hz3 := hb3.size
      simp at hz3
      clear hb3
      go_wp2_with fail
      refine (HSg.out _ HB3.out).mono ?_
      rintro ex w4 ⟨rfl, hb4⟩
      have q0 := (hb4.cell (p := ⟨w.heap.size, 0, none⟩) (by first | omega | (simp; done) | (simp; omega))).trans q0
      have q1 := (hb4.cell (p := ⟨w.heap.size, 1, none⟩) (by first | omega | (simp; done) | (simp; omega))).trans q1
      have q2 := (hb4.cell (p := ⟨w.heap.size + 1, 0, none⟩) (by first | omega | (simp; done) | (simp; omega))).trans q2
      have q3 := (hb4.cell (p := ⟨w.heap.size + 1, 1, none⟩) (by first | omega | (simp; done) | (simp; omega))).trans q3
      have HB4 := Lib.hid (HB3.out.trans (hb4.mono (B' := w.heap.size) (by first | omega | (simp; done) | (simp; omega))))
      have H4 := Lib.hid (H3.out.trans (hb4.mono (by first | omega | (simp; done) | (simp; omega))))
      have hz4 := hb4.size
      clear hb4
      go_wp2_with fail
      refine (HD.out _ HB4.out).mono ?_
      rintro ex w5 ⟨A1, A2, n1, c1, n2, c2, o1, o2, rfl, ho1, hol1, hod1, hov1, _, ho2, hol2, hod2, hov2, _, hap, hb5⟩
      have q0 := (hb5.cell (p := ⟨w.heap.size, 0, none⟩) (by first | omega | (simp; done) | (simp; omega))).trans q0
      have q1 := (hb5.cell (p := ⟨w.heap.size, 1, none⟩) (by first | omega | (simp; done) | (simp; omega))).trans q1
      have q3 := (hb5.cell (p := ⟨w.heap.size + 1, 1, none⟩) (by first | omega | (simp; done) | (simp; omega))).trans q3
      have q2 := (hb5.cell (p := ⟨w.heap.size + 1, 0, none⟩) (by first | omega | (simp; done) | (simp; omega))).trans q2
      have HB5 := Lib.hid (HB4.out.trans (hb5.mono (B' := w.heap.size) (by first | omega | (simp; done) | (simp; omega))))
      have H5 := Lib.hid (H4.out.trans (hb5.mono (by first | omega | (simp; done) | (simp; omega))))
      have hz5 := hb5.size
      have HO1 := Lib.hid (And.intro ho1 (And.intro hol1 (And.intro hod1 hov1)))
      have HO2 := Lib.hid (And.intro ho2 (And.intro hol2 (And.intro hod2 hov2)))
      have HAp := Lib.hid hap
      clear hb5 ho1 hol1 hod1 hov1 ho2 hol2 hod2 hov2 hap
      go_wp2_with fail
      go_region_held3 (fun w' => (w'.cell? ⟨w.heap.size, 0, none⟩ = some (.bool na) ∧ w'.cell? ⟨w.heap.size, 1, none⟩ = some (.slice A n c)) ∧ (w'.cell? ⟨w.heap.size + 1, 0, none⟩ = some (.bool nb) ∧ w'.cell? ⟨w.heap.size + 1, 1, none⟩ = some (.slice A' n' c')))
        (first
          | (go_keep; done)
          | exact HE.out _ ((((K5b.setCell (by first | omega | (simp; done) | (simp; omega)) _).setCell (by first | omega | (simp; done) | (simp; omega)) _).setCell (by first | omega | (simp; done) | (simp; omega)) _).setCell (by first | omega | (simp; done) | (simp; omega)) _)
          | exact HE.out _ ((K5b.setCell (by first | omega | (simp; done) | (simp; omega)) _).setCell (by first | omega | (simp; done) | (simp; omega)) _)
          | exact HE.out _ K5b
          | exact HE.out _ K5a)
        (first
          | (go_at_call 71; (with_reducible refine (laid_at (!(na == nb)) HO1.out.1.drew HO1.out.2.1 HO1.out.2.2.1 (HT1.out _ HO1.out.2.2.2)).mono ?_); rintro e w6 ⟨rfl, ho6, hb6⟩; have hz6 := hb6.size; simp at hz6; have K5a := H5.out.drew.mono (B' := w.heap.size + 1 + 1) (by first | omega | (simp; done) | (simp; omega)) |>.trans (hb6.mono (by first | omega | (simp; done) | (simp; omega))))
          | (go_at_call 71; (with_reducible refine (laid_at na (HO2.out.1.drew.below hb6 (Nat.le_refl _)) HO2.out.2.1 HO2.out.2.2.1 (HT2.out _ HO2.out.2.2.2)).mono ?_); rintro e w7 ⟨rfl, ho7, hb7⟩; have hz7 := hb7.size; have K5b := K5a.trans (hb7.mono (by first | omega | (simp; done) | (simp; omega))); obtain ⟨⟨r0, r1, r2, r3⟩, s0, s1, s2, s3⟩ := HK.out _ _ ((H5.out.drew.mono (B' := w.heap.size + 1 + 1 + 1 + 1) (by first | omega | (simp; done) | (simp; omega))).trans ((hb6.mono (by first | omega | (simp; done) | (simp; omega))).trans (hb7.mono (by first | omega | (simp; done) | (simp; omega))))) (Nat.le_refl _)))
      have ho6' := ho6.below hb7 (Nat.le_refl _)
      have HB7 := HB5.out.drew.trans ((hb6.mono (by first | omega | (simp; done) | (simp; omega))).trans (hb7.mono (B' := w.heap.size) (by first | omega | (simp; done) | (simp; omega))))
      have hap := ResI.apart (b1 := decide (Z1 < 0)) (b2 := decide (Z2 < 0)) (k1 := (digs W Z1.natAbs).length) (c1 := c1) (k2 := (digs W Z2.natAbs).length) (c2 := c2) HO1.out.1 HO2.out.1 HAp.out
      go_wp2
      exact bodyPost_ret (v := .tuple #[.agg #[.bool (decide (Z1 < 0)), .slice A1 (digs W Z1.natAbs).length c1], .agg #[.bool (decide (Z2 < 0)), .slice A2 (digs W Z2.natAbs).length c2], .int .i64 0]) (by simp [results, Try.results20, go_sem, r0, r1, s0, s1]) rfl
        (QRPost.ok (g := w.heap.size + 1 + 1) (h := w.heap.size + 1 + 1 + 1) HC.out ⟨A1, c1, rfl, ho6'⟩ ⟨A2, c2, rfl, ho7⟩ hap HB7 (by first | omega | (simp; done) | (simp; omega)) (by first | omega | (simp; done) | (simp; omega)) (by first | omega | (simp; done) | (simp; omega)) (by first | omega | (simp; done) | (simp; omega)))
  · rw [hb] at HL hco
    have HC := Lib.hid (show co = 10 by rw [← hco]; rfl)
    clear hb hs ht hn hn' hB hB' hl1 hl2 hzero HDv hco HSg
    go_enter Try.func20, Try.ntmps20
    go_wp2_with fail
    refine HL.out.mono ?_
    rintro ex w3 ⟨rfl, hb3⟩
    obtain ⟨⟨r0, r1, r2, r3⟩, s0, s1, s2, s3⟩ := HK.out _ _ hb3 (by first | omega | (simp; done) | (simp; omega))
    have HB3 := Lib.hid (HW.out.trans (hb3.mono (B' := w.heap.size) (by first | omega | (simp; done) | (simp; omega))))
    clear hb3
    go_wp2_with fail
    exact bodyPost_ret (v := .tuple #[zeroV, zeroV, .int .i64 10]) (by simp [results, Try.results20, go_sem, r0, r1, s0, s1]) rfl
      (QRPost.bad (by first | exact HC.out | rfl) (by decide) ((((HB3.out.setCell (by first | omega | (simp; done) | (simp; omega)) _).setCell (by first | omega | (simp; done) | (simp; omega)) _).setCell (by first | omega | (simp; done) | (simp; omega)) _).setCell (by first | omega | (simp; done) | (simp; omega)) _))
end Go.Proofs.Ytggdmhkdmkldoaa
