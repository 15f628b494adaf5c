import Derived.Test.YtgfeainpeplphaaDoorJp
namespace Go.Proofs.YtgfeainpeplphaaDoor
open Go.RowKit Hb Ht
set_option linter.unusedVariables false
set_option linter.unusedSimpArgs false
attribute [local go_sem] Oper.semAt_some
/-! ### the law DcgFresh -/
/-- what the law knows of dcg.Rule -/
def RuleQ (w : World) (t : Tm) (e : Ending) (w' : World) : Prop :=
  (∃ c, e = .returned (.tuple #[zeroTV, .iface 32 (.int .i64 c)]) ∧ Below w.heap.size w w') ∨
  (∃ bb, e = .returned (.tuple #[zeroTV, .iface 82 (.pointer (some ⟨bb, 0, none⟩))]) ∧ Below w.heap.size w w') ∨
  (∃ hd g A c, ruleT t = .ok (cmpT sNeck [hd, g]) ∧ checkP t = 0 ∧ highB t = false ∧ e = .returned (.tuple #[.agg #[.int .i64 5, .string ⟨#[58, 45]⟩, .string ⟨#[]⟩, .int .u64 0, .int .i64 0, .slice A 2 c], .nilIface]) ∧ TOwn w' (cmpT sNeck [hd, g]) (.slice A 2 c) w.heap.size w'.heap.size ∧ Below w.heap.size w w')
theorem Rule_q {w0 w : World} {t : Tm} {st : Value} (h1 : TAt w w.heap.size t st) (hU : UOk w0 w) : Calls Tryd.prog 9 #[valT t st] w (RuleQ w t) := by
  by_cases hc : checkP t = 0
  · refine (Rule_main h1 hU hc).mono ?_
    rintro e w' (⟨_, rfl, hb⟩ | ⟨hh, hb, h⟩)
    · exact .inl ⟨1, rfl, hb⟩
    · cases hr : ruleT t with
      | error b =>
        rw [hr] at h
        obtain ⟨bb, rfl, _⟩ := h
        exact .inr (.inl ⟨bb, rfl, hb⟩)
      | ok a =>
        rw [hr] at h
        obtain ⟨sg, rfl, ho⟩ := h
        obtain ⟨m, hd, g, rfl, _⟩ := fresh_law hr
        obtain ⟨_, _, _, A, c, hs, _⟩ := TOwn.iff.1 ho
        change sg = .slice A 2 c at hs
        subst hs
        exact .inr (.inr ⟨hd, g, A, c, hr, hc, hh, rfl, ho, hb⟩)
  · refine (Rule_err h1 hU rfl hc).mono ?_
    rintro e w' ⟨rfl, hb⟩
    exact .inl ⟨_, rfl, hb⟩
theorem highB_le {t : Tm} (h : highB t = false) : ∀ x ∈ vars t [], x ≤ 4611686018427387904 := by
  intro x hx
  have h2 := List.any_eq_false.1 h x hx
  simpa using h2
theorem vars_nn {t : Tm} (h : checkP t = 0) : ∀ x ∈ vars t [], 0 ≤ x := fun x hx => hasV_nn h (((vars_mem t [] x).1 hx).resolve_left (by simp))
/-- what the law looks at -/
structure FreshK (n m : Int) (old l : List Int) : Prop where
  low : ∀ x ∈ l, x < n → x ∈ old
  top : ∀ x ∈ l, x < m
  nn : ∀ x ∈ l, 0 ≤ x
  has : ∀ x, n ≤ x → x < m → x ∈ l
  two : n + 2 ≤ m
theorem fresh_k {t a : Tm} (h : ruleT t = .ok a) (hck : checkP t = 0) : ∃ m, FreshK (above t) m (vars t []) (vars a []) ∧ m ≤ above t + 8000 + sz t := by
  obtain ⟨m, hd, g, rfl, _, hs, h1, h2, h3, h4⟩ := fresh_law h
  refine ⟨m, ⟨fun x hx hlt => ?_, fun x hx => ?_, fun x hx => ?_, fun x h5 h6 => ?_, h1⟩, h2⟩
  · rcases h3 x (((vars_mem _ _ _).1 hx).resolve_left (by simp)) with h5 | h5
    · exact (vars_mem _ _ _).2 (.inr h5)
    · omega
  · rcases h3 x (((vars_mem _ _ _).1 hx).resolve_left (by simp)) with h5 | h5
    · have := above_gt h5; omega
    · exact h5.2
  · rcases h3 x (((vars_mem _ _ _).1 hx).resolve_left (by simp)) with h5 | h5
    · exact hasV_nn hck h5
    · have := above_nn t; omega
  · exact (vars_mem _ _ _).2 (.inr (h4 x h5 h6))
set_option maxRecDepth 100000 in
set_option maxHeartbeats 16000000 in
theorem Fresh_walk {w0 w : World} {t : Tm} {st : Value} (h : TAt w w.heap.size t st) (hU : UOk w0 w) : Calls Tryd.prog 6 #[valT t st] w fun e w' => e = .returned (.bool true) ∧ Below w.heap.size w w' := by
  obtain ⟨k, nl, ml, b, v, ts, nb, mb, A, c, hT, rfl, hnb, hmb, hl1, hl2, hl3, hvv, hs1, hs2⟩ := h.letters
  rw [hvv]
  obtain ⟨L, hL⟩ : ∃ L, ts.length = L := ⟨_, rfl⟩
  rw [hL] at h hvv ⊢
  subst hT
  obtain ⟨W1, hW1⟩ : ∃ W1, w.alloc (.cells #[.int .i64 k, .string nb, .string mb, .int .u64 b, .int .i64 v, .slice A L c] 25) = W1 := ⟨_, rfl⟩
  have hb1 : Below w.heap.size w W1 := by rw [← hW1]; exact (Below.refl _ _).alloc (Nat.le_refl _) _
  have hX : TBox W1 w.heap.size (.mk k nl ml b v ts) (.slice A L c) := by rw [← hW1]; exact TBox.new w hnb hmb
  have HM := Lib.hid (And.intro hnb hmb)
  have HA := Lib.hid (awake_any (hU.below hb1))
  have HT := Lib.hid (And.intro (h.to hb1 hb1.size) (And.intro hX (And.intro hb1 (hU.below hb1))))
  have HV := Lib.hid hvv
  subst hW1
  clear h hvv hb1 hX hU hL hnb hmb
  generalize hGM : Tm.mk k nl ml b v ts = TT at *
  go_enter Tryd.func6, Tryd.ntmps6
  go_upto_region 2 with (go_at_call 7; (with_reducible refine HA.out.mono ?_); rintro e w2 ⟨rfl, hb⟩; have HB2 := Lib.hid hb; clear hb)
  have HT2 := Lib.hid (And.intro (HT.out.1.to HB2.out HB2.out.size) (And.intro (HT.out.2.1.below HB2.out) (And.intro (HT.out.2.2.1.trans (HB2.out.mono HT.out.2.2.1.size)) (HT.out.2.2.2.below HB2.out))))
  have HGM := Lib.hid hGM
  have hX2 := HT2.out.2.1
  rw [← HGM.out] at hX2
  obtain ⟨x0, x1, x2, x3, x4, x5⟩ := hX2.cells HM.out.1 HM.out.2
  clear HA HB2 HT hX2 hGM
  have hR := Rule_q HT2.out.1 HT2.out.2.2.2
  rw [HV.out] at hR
  have HR := Lib.hid hR
  clear hR
  go_wp2_with fail
  (with_reducible refine HR.out.mono ?_)
  rintro e w3 hq
  clear HR
  rcases hq with ⟨ce, rfl, hb3⟩ | ⟨bb, rfl, hb3⟩ | ⟨hd, g, A3, c3, hr, hck, hhi, rfl, ho, hb3⟩
  · have HB3 := Lib.hid (HT2.out.2.2.1.trans (hb3.mono HT2.out.2.2.1.size))
    clear hb3 x0 x1 x2 x3 x4 x5
    rw [show zeroTV = .agg #[.int .i64 0, .string ⟨#[]⟩, .string ⟨#[]⟩, .int .u64 0, .int .i64 0, .slice none 0 0] from rfl]
    go_wp2
    go_ret
    exact ⟨rfl, HB3.out.trans (((Below.refl _ _).alloc (Nat.le_refl _) _).mono HB3.out.size)⟩
  · have HB3 := Lib.hid (HT2.out.2.2.1.trans (hb3.mono HT2.out.2.2.1.size))
    clear hb3 x0 x1 x2 x3 x4 x5
    rw [show zeroTV = .agg #[.int .i64 0, .string ⟨#[]⟩, .string ⟨#[]⟩, .int .u64 0, .int .i64 0, .slice none 0 0] from rfl]
    go_wp2
    go_ret
    exact ⟨rfl, HB3.out.trans (((Below.refl _ _).alloc (Nat.le_refl _) _).mono HB3.out.size)⟩
  · obtain ⟨m, hFK, hm⟩ := fresh_k hr hck
    obtain ⟨a, ha⟩ : ∃ a, cmpT sNeck [hd, g] = a := ⟨_, rfl⟩
    have hlaw := fresh_law hr
    have HS := Lib.hid (And.intro hr (And.intro hck hhi))
    have hsz := (check_iff.1 hck).1
    have hasz : sz a ≤ 4000 ∧ 2 ≤ hd.as.length := by
      obtain ⟨m', hd', g', e, h1, h2, _⟩ := hlaw
      rw [← ha]
      refine ⟨h2, ?_⟩
      have e2 : hd = hd' ∧ g = g' := by
        injection e with _ _ _ _ _ e6
        injection e6 with e7 e8
        injection e8 with e9 _
        exact ⟨e7, e9⟩
      rw [e2.1]
      exact h1
    obtain ⟨n, hn⟩ : ∃ n, above TT = n := ⟨_, rfl⟩
    obtain ⟨old, hold⟩ : ∃ l, vars TT [] = l := ⟨_, rfl⟩
    obtain ⟨l, hl⟩ : ∃ l, vars a [] = l := ⟨_, rfl⟩
    have hlo := vars_len TT []
    have hll := vars_len a []
    rw [ha] at hFK
    rw [hn] at hm
    rw [hn, hold, hl] at hFK
    have hn0 : 0 ≤ n := by rw [← hn]; exact above_nn TT
    have hn1 : n ≤ 4611686018427387905 := by
      rw [← hn]
      unfold above
      rcases (foldl_max (vars TT []) 0).2.2 with e | ⟨x, hx, e⟩
      · rw [e]; omega
      · rw [e]; have := highB_le hhi x hx; omega
    have HF := Lib.hid hFK
    have HN := Lib.hid (And.intro hn (And.intro hold (And.intro hl (And.intro (show old.length ≤ 4000 by rw [← hold]; simp at hlo; omega) (show l.length ≤ 4000 by rw [← hl]; simp at hll; omega)))))
    have HZ := Lib.hid (And.intro hsz hasz)
    have hm2 : m ≤ n + 12000 := by omega
    have hm3 := hFK.two
    clear hlaw hr hck hhi hn hold hl hlo hll hFK hsz hasz hm
    have HO := Lib.hid (And.intro ho (And.intro hb3 ha))
    clear ho hb3 ha
    go_upto_region 5 with fail
    have HY := Lib.hid (show ∀ z, w3.alloc (.cells #[.int .i64 5, .string ⟨#[58, 45]⟩, .string ⟨#[]⟩, .int .u64 0, .int .i64 0, .slice A3 2 c3] 25) = z → TBox z w3.heap.size (cmpT sNeck [hd, g]) (.slice A3 2 c3) ∧ TAt z z.heap.size (cmpT sNeck [hd, g]) (.slice A3 2 c3) ∧ Below w2.heap.size w2 z from fun z e => by
      rw [← e]
      have hb : Below w3.heap.size w3 (w3.alloc (.cells #[.int .i64 5, .string ⟨#[58, 45]⟩, .string ⟨#[]⟩, .int .u64 0, .int .i64 0, .slice A3 2 c3] 25)) := (Below.refl _ _).alloc (Nat.le_refl _) _
      exact ⟨TBox.new w3 (n := sNeck) (m := []) rfl rfl, (TOwn.new HO.out.1).to hb hb.size, HO.out.2.1.trans (hb.mono HO.out.2.1.size)⟩)
    generalize w3.alloc (.cells #[.int .i64 5, .string ⟨#[58, 45]⟩, .string ⟨#[]⟩, .int .u64 0, .int .i64 0, .slice A3 2 c3] 25) = w4 at *
    generalize w3.heap.size = G4 at *
    replace HY := Lib.hid (HY.out _ rfl)
    have HTy := Lib.hid (HT2.out.2.1.below HY.out.2.2)
    have hX4 := HTy.out
    rw [← HGM.out] at hX4
    clear x0 x1 x2 x3 x4 x5
    obtain ⟨x0, x1, x2, x3, x4, x5⟩ := hX4.cells HM.out.1 HM.out.2
    have hAb := Above_any (HT2.out.1.to HY.out.2.2 HY.out.2.2.size) (by have := HZ.out.1; omega) (fun x hx => ⟨vars_nn HS.out.2.1 x hx, by have := highB_le HS.out.2.2 x hx; omega⟩)
    rw [HN.out.1, HV.out] at hAb
    have HAb := Lib.hid hAb
    clear hAb hX4
    go_upto_region 6 with (go_at_call 20; (with_reducible refine HAb.out.mono ?_); rintro e w5 ⟨rfl, hb⟩; have HB5 := Lib.hid hb; clear hb)
    have hX5 := HTy.out.below HB5.out
    rw [← HGM.out] at hX5
    clear x0 x1 x2 x3 x4 x5
    obtain ⟨x0, x1, x2, x3, x4, x5⟩ := hX5.cells HM.out.1 HM.out.2
    have hV5 := Vars_any TT w5 (.slice A L c) none 0 0 [] (((HT2.out.1.to HY.out.2.2 HY.out.2.2.size).to HB5.out HB5.out.size).wide (fun b hb => ⟨hb, by simp [Value.ownBlock]⟩)) ⟨rfl, .inl ⟨rfl, rfl⟩⟩ (by have := HZ.out.1; unfold BigN; simp; omega)
    rw [HN.out.2.1, HV.out] at hV5
    have HV5 := Lib.hid hV5
    clear hV5 hX5 HAb
    go_upto_region 7 with (go_at_call 23; (with_reducible refine HV5.out.mono ?_); rintro e w6 ⟨A6, n6, c6, rfl, ho6, hg6, hm6⟩; have H6 := Lib.hid (And.intro ho6 (show Below w5.heap.size w5 w6 from ⟨hg6.os, hg6.tape, hg6.output, hg6.size, fun j hj => hg6.block j hj (by simp [Value.ownBlock])⟩)); clear ho6 hg6 hm6)
    clear x0 x1 x2 x3 x4 x5
    have HB6 := Lib.hid (HB5.out.trans (H6.out.2.mono HB5.out.size))
    obtain ⟨y0, y1, y2, y3, y4, y5⟩ := (HY.out.1.below HB6.out).cells (n := sNeck) (m := []) (nb := ⟨#[58, 45]⟩) (mb := ⟨#[]⟩) rfl rfl
    have hV6 := Vars_any a w6 (.slice A3 2 c3) none 0 0 [] (by rw [← HO.out.2.2]; exact (HY.out.2.1.to HB6.out HB6.out.size).wide (fun b hb => ⟨hb, by simp [Value.ownBlock]⟩)) ⟨rfl, .inl ⟨rfl, rfl⟩⟩ (by have := HZ.out.2.1; unfold BigN; simp; omega)
    rw [HN.out.2.2.1, ← HO.out.2.2, show valT (cmpT sNeck [hd, g]) (.slice A3 2 c3) = .agg #[.int .i64 5, .string ⟨#[58, 45]⟩, .string ⟨#[]⟩, .int .u64 0, .int .i64 0, .slice A3 2 c3] from rfl] at hV6
    have HV6 := Lib.hid hV6
    clear hV6 HV5
    go_upto_region 8 with (go_at_call 23; (with_reducible refine HV6.out.mono ?_); rintro e w7 ⟨A7, n7, c7, rfl, ho7, hg7, hm7⟩; have H7 := Lib.hid (And.intro ho7 (show Below w6.heap.size w6 w7 from ⟨hg7.os, hg7.tape, hg7.output, hg7.size, fun j hj => hg7.block j hj (by simp [Value.ownBlock])⟩)); clear ho7 hg7 hm7)
    clear y0 y1 y2 y3 y4 y5 HV6
    have hn6 : old.length = n6 := Own.zlen H6.out.1
    have hn7 : l.length = n7 := Own.zlen H7.out.1
    have HLn := Lib.hid (And.intro hn6 hn7)
    have hn7I : (n7 : Int) ≤ 4000 := by have := HN.out.2.2.2.2; omega
    have HRo := Lib.hid (show Rd w7 w7.heap.size A6 (zs old) from (Rd.below (Own.rd H6.out.1) H7.out.2 (Nat.le_refl _)).mono H7.out.2.size)
    have HRl := Lib.hid (Own.rd H7.out.1)
    have HB7 := Lib.hid (HB6.out.trans (H7.out.2.mono HB6.out.size))
    have HIo := Lib.hid (fun x : Int => In_any (c := c6) HLn.out.1 (by have := HN.out.2.2.2.1; have := HLn.out.1; unfold BigN; omega) HRo.out x)
    have HIl := Lib.hid (fun x : Int => In_any (c := c7) HLn.out.2 (by have := HN.out.2.2.2.2; have := HLn.out.2; unfold BigN; omega) HRl.out x)
    clear hn6 hn7
    go_upto_region 10 with fail
    go_loopw [9, 10] (fun v9 v10 wr => w7 = wr ∧ ∃ (i : Nat) (x : Int), v9 = .int .i64 x ∧ v10 = .int .i64 (i : Int) ∧ i ≤ n7 ∧ n ≤ x ∧ x < m ∧ Hid (∀ y ∈ l.take i, y ≤ x)) (fun _ v10 _ => ((n7 : Int) - intOf v10).toNat)
    case atStart => exact ⟨rfl, 0, n, rfl, rfl, Nat.zero_le _, by omega, by omega, Lib.hid (fun y hy => by simp at hy)⟩
    case round =>
      obtain ⟨rfl, i, x, rfl, rfl, hi, hx1, hx2, HI⟩ := hrel
      by_cases hlt : i < n7
      · have hltI : (i : Int) < (n7 : Int) := by omega
        have hi0 : (0 : Int) ≤ (i : Int) := by omega
        have hil : i < l.length := by rw [HLn.out.2]; exact hlt
        obtain ⟨y, hy⟩ : ∃ y, l[i]? = some y := ⟨_, List.getElem?_eq_getElem hil⟩
        obtain ⟨g', o, rfl, hg, hc⟩ := HRl.out (zs_ne hy)
        have e0 := hc i _ (zs_get hy)
        have hym : y ∈ l := List.mem_of_getElem? hy
        have hyt := HF.out.top y hym
        have hlow := HF.out.low y hym
        obtain ⟨bi, hbi⟩ : ∃ b, decide (y ∈ old) = b := ⟨_, rfl⟩
        have hIn := HIo.out y
        rw [hbi] at hIn
        have HIn := Lib.hid hIn
        have HE := Lib.hid (show ∀ z ∈ l.take (i + 1), z ≤ max x y from by
          intro z hz
          rw [List.take_add_one, hy] at hz
          rcases List.mem_append.1 hz with hz | hz
          · exact Int.le_trans (HI.out z hz) (Int.le_max_left _ _)
          · simp at hz
            rw [hz]
            exact Int.le_max_right _ _)
        have HLT := Lib.hid hlt
        have hyr : -9223372036854775808 ≤ y ∧ y ≤ 9223372036854775807 := by have := HF.out.nn y hym; omega
        obtain ⟨hyr1, hyr2⟩ := hyr
        by_cases hyn : y < n
        · obtain rfl : bi = true := by rw [← hbi]; exact decide_eq_true (hlow hyn)
          clear hlt hi hil hy hc hIn hbi hlow hym HI
          go_wp2_with (go_at_call 24; (with_reducible refine HIn.out.mono ?_); rintro e w9 ⟨rfl, rfl⟩)
          refine ⟨⟨trivial, i + 1, max x y, rfl, rfl, HLT.out, by omega, by omega, HE⟩, ?_⟩
          have := HLT.out
          show ((n7 : Int) - ((i : Int) + 1)).toNat < ((n7 : Int) - (i : Int)).toNat
          omega
        · clear hlt hi hil hy hc hIn hbi hlow hym HI
          go_wp2_with (go_at_call 24; (with_reducible refine HIn.out.mono ?_); rintro e w9 ⟨rfl, rfl⟩)
          refine ⟨⟨trivial, i + 1, max x y, rfl, rfl, HLT.out, by omega, by omega, HE⟩, ?_⟩
          have := HLT.out
          show ((n7 : Int) - ((i : Int) + 1)).toNat < ((n7 : Int) - (i : Int)).toNat
          omega
      · have ei : i = n7 := by omega
        have hxl : ∀ y ∈ l, y ≤ x := by
          have h8 := HI.out
          rw [ei, List.take_of_length_le (by rw [HLn.out.2]; exact Nat.le_refl _)] at h8
          exact h8
        have hxn : n < x := by have := hxl (n + 1) (HF.out.has (n + 1) (by omega) (by omega)); omega
        subst ei
        clear hlt hi hxl HI hx1
        go_upto_region 17 with fail
        go_loopw [12] (fun v12 wr => w7 = wr ∧ ∃ k : Int, v12 = .int .i64 k ∧ n ≤ k ∧ k ≤ x + 1) (fun v12 _ => (x + 1 - intOf v12).toNat)
        case atStart => exact ⟨rfl, n, rfl, by omega, by omega⟩
        case round =>
          obtain ⟨rfl, k', rfl, hk1, hk2⟩ := hrel
          by_cases hk : k' ≤ x
          · have hIn := HIl.out k'
            rw [decide_eq_true (HF.out.has k' hk1 (by omega))] at hIn
            have HIn := Lib.hid hIn
            clear hIn
            go_wp2_with (go_at_call 24; (with_reducible refine HIn.out.mono ?_); rintro e w9 ⟨rfl, rfl⟩)
            refine ⟨⟨trivial, k' + 1, rfl, by omega, by omega⟩, ?_⟩
            show (x + 1 - (k' + 1)).toNat < (x + 1 - k').toNat
            omega
          · obtain ⟨y0, y1, y2, y3, y4, y5⟩ := (HY.out.1.below HB7.out).cells (n := sNeck) (m := []) (nb := ⟨#[58, 45]⟩) (mb := ⟨#[]⟩) rfl rfl
            obtain ⟨ga, oa, hA, hga, hel⟩ := TAt.arg (HY.out.2.1.to HB7.out HB7.out.size) (i := 0) (a := hd) rfl
            subst hA
            obtain ⟨A8, c8, k8, n8, m8, b8, v8, ts8, nb8, mb8, hd8, hnb8, hmb8, ht8, z0, z1, z2, z3, z4, z5⟩ := EltAt.cells hel
            have h2 : 2 ≤ ts8.length := by
              have := HZ.out.2.2
              rw [hd8] at this
              exact this
            rw [Nat.zero_mul, Nat.add_zero] at z5
            obtain ⟨_, _, hsl, hl8, hc8, hx8, _, _⟩ := TAtP.iff.1 ht8
            injection hsl with _ e7 e8
            subst e8
            obtain ⟨L8, hL8⟩ : ∃ L, ts8.length = L := ⟨_, rfl⟩
            rw [hL8] at h2 z5
            have hL8I : (2 : Int) ≤ (L8 : Int) := by omega
            have hL8J : (L8 : Int) ≤ 1759218604400 := by have := hx8; rw [hd8] at this; change ts8.length ≤ _ at this; unfold maxArgs at this; omega
            clear hel hd8 hnb8 hmb8 ht8 z0 z1 z2 z3 z4 hL8 hl8 hc8 hx8
            go_wp2
            go_ret
            exact ⟨rfl, HT2.out.2.2.1.trans ((HY.out.2.2.trans (HB7.out.mono HY.out.2.2.size)).mono HT2.out.2.2.1.size)⟩
end Go.Proofs.YtgfeainpeplphaaDoor
