import Derived.Test.YtggdmhkdmkldoaaEb
import Derived.Test.YtggdmhkdmkldoaaSh
import Derived.IntWalk
namespace Go.Proofs.Ytggdmhkdmkldoaa
open Go.RowKit Hb

set_option maxRecDepth 100000 in
set_option maxHeartbeats 4000000 in
theorem Shift_down (neg : Bool) {B : Nat} {A : Option Addr} {l : List Nat} {n c : Nat} {w : World} (hs : SlU w B A n c l) (hn : n ≤ 67108000) (hB : B ≤ w.heap.size) (hlg : lng l = false) (h0 : ival neg l ≠ 0) (kk mm : Int) (m : Nat) (hmm : mm = -(m : Int)) (hm0 : 0 < m) (hm4 : m ≤ 4097) (hk : kk < 0) (hk2 : -9223372036854775808 ≤ kk) (hc1 : kk < -4096 → mm = -4097) (hc2 : ¬ kk < -4096 → mm = kk)  (Z : Int) (hZ : ival neg l / 2 ^ m = Z) :
    Calls Try.prog 55 #[.agg #[.bool neg, .slice A n c], .int .i64 kk] w (PostC w Z 0) := by
  have HL := Lib.hid (P1w_long (neg := neg) hs (by omega) hB)
  rw [hlg] at HL
  obtain ⟨s, hsg⟩ : ∃ s, (ival neg l).sign = s := ⟨_, rfl⟩
  have HSg : Hid (∀ w1, Below w.heap.size w w1 → Calls Try.prog 42 #[.agg #[.bool neg, .slice A n c]] w1 (CmpZPost s w1)) := Lib.hid (fun w1 hb => by rw [← hsg]; exact sign_any neg (hs.below (C := w.heap.size) hb hB) (Nat.le_trans hB hb.size))
  have hs0 : (s == 0) = false := beq_eq_false_iff_ne.2 (fun e => h0 (Int.sign_eq_zero_iff_zero.1 (hsg.trans e)))
  have d0 : decide ((0 : Int) ≤ kk) = false := decide_eq_false (by omega)
  have HC1 := Lib.hid (fun h : kk < -4096 => (hc1 h).symm)
  have HC2 := Lib.hid (fun h : ¬ kk < -4096 => (hc2 h).symm)
  have hm1 : -4097 ≤ mm := by omega
  have hm2 : mm < 0 := by omega
  have hneg : -mm = (m : Int) := by omega
  obtain ⟨q, hq⟩ : ∃ q, m / 32 = q := ⟨_, rfl⟩
  obtain ⟨r, hr⟩ : ∃ r, m % 32 = r := ⟨_, rfl⟩
  obtain ⟨p, hp⟩ : ∃ p, 2 ^ r = p := ⟨_, rfl⟩
  have hqI : (m : Int) / 32 = (q : Int) := by omega
  have hrI : (m : Int) % 32 = (r : Int) := by omega
  have hp32 : p < 4294967296 := by
    have : 2 ^ r < 2 ^ 32 := Nat.pow_lt_pow_right (by decide) (by omega)
    omega
  have hpI : (2 : Int) ^ r = (p : Int) := by rw [← hp]; simp
  have hpM : (p : Int) % 4294967296 = (p : Int) := by omega
  have HPW : Hid (IntKind.u32.wrap (p : Int) = (p : Int)) := Lib.hid (wrap_u32 p hp32)
  have hmk := makeU q (by omega)
  have HQ := Lib.hid (show q ≤ maxLen by unfold maxLen; omega)
  have HQ2 := Lib.hid (show q + 1 ≤ 67108864 by omega)
  have HP := Lib.hid (And.intro hp32 True.intro)
  obtain ⟨zp, hzp⟩ : ∃ z : Int, ((2 ^ m : Nat) : Int) = z := ⟨_, rfl⟩
  have hzd : Dig W (List.replicate q 0 ++ [p]) := by have := dig_two_pow m; rw [hq, hr, hp] at this; exact this
  have hzv : ival false (List.replicate q 0 ++ [p]) = zp := by
    have := Hb.nv_two m
    rw [hq, hr, hp] at this
    rw [← hzp]; unfold ival; rw [this]; rfl
  have HV := Lib.hid (And.intro hzd hzv)
  have hza : zp.natAbs = 2 ^ m := by rw [← hzp, Int.natAbs_natCast]
  have HPV := Lib.hid (show nv W (digs W zp.natAbs) = 2 ^ m by rw [nv_digs (by decide), hza])
  have HPn := Lib.hid (show (digs W zp.natAbs).length ≤ 129 by
    refine digs_length_le (k := 129) (by decide) ?_
    rw [hza, W_pow_eq]
    generalize hK9 : 32 * 129 = K9
    exact Nat.pow_lt_pow_right (by decide) (by omega))
  have HSl := Lib.hid (fun w1 (hb : Below w.heap.size w w1) => And.intro (hs.below (C := w.heap.size) hb hB) (Nat.le_trans hB hb.size))
  have HN := Lib.hid (show n ≤ 67108000 from hn)
  have hlen := hs.len
  have HLn := Lib.hid (show l.length = n from hlen)
  have HDl := Lib.hid hs.dig
  have hiv : ival neg l = if neg then -(nv W l : Int) else (nv W l : Int) := rfl
  have HZ := Lib.hid hZ
  have HIV := Lib.hid hiv
  clear hs hn hB hlg h0 hsg hZ hq hr hp hzp hzd hzv hza hmm hm0 hc1 hc2 hlen hiv hp32
  go_enter Try.func55, Try.ntmps55
  go_wp2_with fail
  refine HL.out.mono ?_
  rintro ex w3 ⟨rfl, hb3⟩
  obtain ⟨h1, h2, h3, h4⟩ := P1w_after hb3
  obtain ⟨a0, a1, _, _⟩ := h1.facts
  obtain ⟨r0, r1, r2, r3⟩ := h2.facts
  have H1 := Lib.hid h1
  have H2 := Lib.hid h2
  have H3 := Lib.hid h3
  clear h1 h2 h3 hb3
  go_wp2_with fail
  refine (HSg.out _ H3.out).mono ?_
  rintro ex w4 ⟨rfl, hb4⟩
  have hz4 := hb4.size
  replace H1 := Lib.hid (H1.out.below hb4 (by omega))
  replace H2 := Lib.hid (H2.out.below hb4 (by omega))
  replace H3 := Lib.hid (H3.out.trans (hb4.mono (by omega)))
  clear hb4 a0 a1 r0 r1 r2 r3
  obtain ⟨a0, a1, _, _⟩ := H1.out.facts
  obtain ⟨r0, r1, r2, r3⟩ := H2.out.facts
  go_upto_if 43 with fail
  go_cut [1] (fun s1 wx => s1 = .int .i64 mm ∧ w4 = wx)
  case first =>
    go_wp2_with fail
    all_goals
      go_meet
      first | exact ⟨by rw [HC1.out ‹_›], rfl⟩ | exact ⟨by rw [HC2.out (by omega)], rfl⟩
  obtain ⟨rfl, rfl⟩ := hcut
  clear HC1 HC2 d0 hk hk2
  go_upto_region 11 with fail
  go_cut [6] (fun s6 wx => ∃ g A2 c2, s6 = .pointer (some ⟨g, 0, none⟩) ∧ Bx wx g (.bool (decide (zp < 0))) (.slice A2 (digs W zp.natAbs).length c2) ∧ OwnU wx w4.heap.size A2 (digs W zp.natAbs).length c2 (u32s (digs W zp.natAbs)) ∧ Below w4.heap.size w4 wx ∧ w4.heap.size ≤ g)
  case first =>
      have KK : Below w4.heap.size w4 w4.drew := (Below.refl _ _).drew
      refine wp_region_wait (fun _ => True) 12 (by kernel_rfl) ?_
      change wpAnyW _ _ _ _ _ _ _ _ _ w4.drew
      have zd : w4.heap.size ≤ w4.drew.heap.size := Nat.le_refl _
      generalize w4.drew = u0 at *
      have hqw : IntKind.i64.wrap (q : Int) = (q : Int) := IntWalk.i64_in _ (by omega)
      have hmw : IntKind.i64.wrap (m : Int) = (m : Int) := IntWalk.i64_in _ (by omega)
      have hpw : IntKind.u32.wrap (p : Int) = (p : Int) := HPW.out
      have hrt : (m : Int).tmod 32 = (r : Int) := by rw [Int.tmod_eq_emod_of_nonneg (by omega)]; exact hrI
      refine wpAnyW_take 12 (i := 0) (v := .int .i64 mm) rfl (by kernel_rfl) (by kernel_rfl) (by kernel_rfl) (by kernel_rfl) (fun _ _ _ h => h) (Or.inl ⟨by kernel_rfl, fun w5 hSw => by go_simp⟩) trivial ?_
      refine wpAnyW_take 12 (i := 1) (v := .int .i64 (m : Int)) rfl (by kernel_rfl) (by kernel_rfl) (by kernel_rfl) (by kernel_rfl) (fun _ _ _ h => h) (Or.inl ⟨by kernel_rfl, fun w5 hSw => by go_simp⟩) trivial ?_
      refine wpAnyW_take 12 (i := 2) (v := .int .i64 (q : Int)) rfl (by kernel_rfl) (by kernel_rfl) (by kernel_rfl) (by kernel_rfl) (fun _ _ _ h => h) (Or.inl ⟨by kernel_rfl, fun w5 hSw => by go_simp⟩) trivial ?_
      refine wpAnyW_take 12 (i := 4) (v := .int .i64 mm) rfl (by kernel_rfl) (by kernel_rfl) (by kernel_rfl) (by kernel_rfl) (fun _ _ _ h => h) (Or.inl ⟨by kernel_rfl, fun w5 hSw => by go_simp⟩) trivial ?_
      refine wpAnyW_take 12 (i := 5) (v := .int .i64 (m : Int)) rfl (by kernel_rfl) (by kernel_rfl) (by kernel_rfl) (by kernel_rfl) (fun _ _ _ h => h) (Or.inl ⟨by kernel_rfl, fun w5 hSw => by go_simp⟩) trivial ?_
      refine wpAnyW_take 12 (i := 6) (v := .int .i64 (r : Int)) rfl (by kernel_rfl) (by kernel_rfl) (by kernel_rfl) (by kernel_rfl) (fun _ _ _ h => h) (Or.inl ⟨by kernel_rfl, fun w5 hSw => by go_simp⟩) trivial ?_
      refine wpAnyW_take 12 (i := 7) (v := .int .u32 (p : Int)) rfl (by kernel_rfl) (by kernel_rfl) (by kernel_rfl) (by kernel_rfl) (fun _ _ _ h => h) (Or.inl ⟨by kernel_rfl, fun w5 hSw => by go_simp⟩) trivial ?_
      refine wpAnyW_three (i := 3) (i2 := 8) (i3 := 11) (by kernel_rfl) rfl rfl rfl (fun K hK => ?_) (fun K hK => ?_) (fun K hK => ?_) 
      · go_simp
        have omk := own_zeros u0 q (B := w4.heap.size) KK.size HQ.out
        have zu13 : u0.heap.size < (u0.alloc (.cells (madeCells #[.int .u32 0] q) 48)).heap.size := by simp
        replace KK := Below.alloc KK KK.size (.cells (madeCells #[.int .u32 0] q) 48)
        refine hK.out _ _ (fun _ => trivial) ?_
        generalize u0.alloc (.cells (madeCells #[.int .u32 0] q) 48) = u13 at *
        generalize u0.heap.size = g14 at *
        refine wpAnyW_two (i := 8) (i2 := 11) (by kernel_rfl) rfl rfl (fun K hK => ?_) (fun K hK => ?_) 
        · go_simp
          replace omk := Own.alloc omk (.cells #[.int .u32 (p : Int)] 48)
          have obs := own_one u13 p (B := w4.heap.size) KK.size
          have zu15 : u13.heap.size < (u13.alloc (.cells #[.int .u32 (p : Int)] 48)).heap.size := by simp
          replace KK := Below.alloc KK KK.size (.cells #[.int .u32 (p : Int)] 48)
          refine hK.out _ _ (fun _ => trivial) ?_
          generalize u13.alloc (.cells #[.int .u32 (p : Int)] 48) = u15 at *
          generalize u13.heap.size = g16 at *
          refine wpAnyW_two (i := 9) (i2 := 11) (by kernel_rfl) rfl rfl (fun K hK => ?_) (fun K hK => ?_) 
          · rw [if_pos (by kernel_rfl)]
            have osl := Own.sl obs (Dig.cons HP.out.1 (Dig.nil _)) rfl
            refine wp_append_far (base := w4.heap.size) (l0 := List.replicate q 0) (l := [p]) (A := some ⟨g16, 0, none⟩) (A0 := some ⟨g14, 0, none⟩) (n0 := q) (c0 := q) (m := 1) (c := 1) _ _ (by rfl) (by rfl) omk (by rfl) (fun h => by cases h) osl HQ2.out KK.size ?_
            intro Aap cap u17 oap hbb hff hat
            replace KK := KK.trans (hbb.mono (Nat.le_refl _))
            clear hbb hff hat omk obs osl
            refine hK.out _ _ (fun _ => trivial) ?_
            refine wpAnyW_two (i := 10) (i2 := 11) (by kernel_rfl) rfl rfl (fun K hK => ?_) (fun K hK => ?_) 
            · go_simp
              (with_reducible refine (laid_at false oap (by simp) HV.out.1 HV.out.2).mono ?_)
              rintro ex u18 ⟨rfl, ores, hbb⟩
              replace KK := KK.trans (hbb.mono KK.size)
              clear hbb oap
              refine hK.out _ _ (fun _ => trivial) ?_
              refine wpAnyW_one (i := 11) (by kernel_rfl) rfl (fun K hK => ?_)
              go_simp
              have hap : ∀ g', Aap = some ⟨g', 0, none⟩ → g' ≠ u18.heap.size := fun g' e => Nat.ne_of_lt (own_block ores e).2
              replace ores := Own.alloc ores (.cells #[.bool false, .slice none 0 0] 24)
              have bal := Bx.new u18 (.bool false) (.slice none 0 0)
              have hwal : w4.heap.size ≤ u18.heap.size := KK.size
              have zu19 : u18.heap.size < (u18.alloc (.cells #[.bool false, .slice none 0 0] 24)).heap.size := by simp
              replace KK := Below.alloc KK KK.size (.cells #[.bool false, .slice none 0 0] 24)
              refine hK.out _ _ (fun _ => trivial) ?_
              replace hap := Lib.hid hap
              generalize u18.alloc (.cells #[.bool false, .slice none 0 0] 24) = u19 at *
              generalize u18.heap.size = g20 at *
              refine wpAnyW_one (i := 12) (by kernel_rfl) rfl (fun K hK => ?_)
              obtain ⟨t0, t1, t2, t3⟩ := bal.facts
              go_simp
              refine hK.out _ _ (fun h => absurd h (by simp)) ?_
              refine wpAnyW_done (by kernel_rfl) ?_ _
              go_wp2_with fail
              go_meet
              exact ⟨g20, Aap, cap, rfl, Bx.set bal _ _, (ores.far (p := ⟨g20, 0, none⟩) hap.out _).far (p := ⟨g20, 1, none⟩) hap.out _, (KK.setCell (by simpa using hwal) _).setCell (by simpa using hwal) _, hwal⟩
            · go_simp
              have hap : ∀ g', Aap = some ⟨g', 0, none⟩ → g' ≠ u17.heap.size := fun g' e => Nat.ne_of_lt (own_block oap e).2
              replace oap := Own.alloc oap (.cells #[.bool false, .slice none 0 0] 24)
              have bal := Bx.new u17 (.bool false) (.slice none 0 0)
              have hwal : w4.heap.size ≤ u17.heap.size := KK.size
              have zu21 : u17.heap.size < (u17.alloc (.cells #[.bool false, .slice none 0 0] 24)).heap.size := by simp
              replace KK := Below.alloc KK KK.size (.cells #[.bool false, .slice none 0 0] 24)
              refine hK.out _ _ (fun _ => trivial) ?_
              replace hap := Lib.hid hap
              generalize u17.alloc (.cells #[.bool false, .slice none 0 0] 24) = u21 at *
              generalize u17.heap.size = g22 at *
              refine wpAnyW_one (i := 10) (by kernel_rfl) rfl (fun K hK => ?_)
              go_simp
              (with_reducible refine (laid_at false oap (by simp) HV.out.1 HV.out.2).mono ?_)
              rintro ex u23 ⟨rfl, ores, hbb⟩
              replace bal := Bx.below bal hbb (Bx.lt bal)
              replace KK := KK.trans (hbb.mono KK.size)
              clear hbb oap
              refine hK.out _ _ (fun _ => trivial) ?_
              refine wpAnyW_one (i := 12) (by kernel_rfl) rfl (fun K hK => ?_)
              obtain ⟨t0, t1, t2, t3⟩ := bal.facts
              go_simp
              refine hK.out _ _ (fun h => absurd h (by simp)) ?_
              refine wpAnyW_done (by kernel_rfl) ?_ _
              go_wp2_with fail
              go_meet
              exact ⟨g22, Aap, cap, rfl, Bx.set bal _ _, (ores.far (p := ⟨g22, 0, none⟩) hap.out _).far (p := ⟨g22, 1, none⟩) hap.out _, (KK.setCell (by simpa using hwal) _).setCell (by simpa using hwal) _, hwal⟩
          · go_simp
            replace omk := Own.alloc omk (.cells #[.bool false, .slice none 0 0] 24)
            replace obs := Own.alloc obs (.cells #[.bool false, .slice none 0 0] 24)
            have bal := Bx.new u15 (.bool false) (.slice none 0 0)
            have hwal : w4.heap.size ≤ u15.heap.size := KK.size
            have zu24 : u15.heap.size < (u15.alloc (.cells #[.bool false, .slice none 0 0] 24)).heap.size := by simp
            replace KK := Below.alloc KK KK.size (.cells #[.bool false, .slice none 0 0] 24)
            refine hK.out _ _ (fun _ => trivial) ?_
            generalize u15.alloc (.cells #[.bool false, .slice none 0 0] 24) = u24 at *
            generalize u15.heap.size = g25 at *
            refine wpAnyW_one (i := 9) (by kernel_rfl) rfl (fun K hK => ?_)
            rw [if_pos (by kernel_rfl)]
            have osl := Own.sl obs (Dig.cons HP.out.1 (Dig.nil _)) rfl
            refine wp_append_far (base := w4.heap.size) (l0 := List.replicate q 0) (l := [p]) (A := some ⟨g16, 0, none⟩) (A0 := some ⟨g14, 0, none⟩) (n0 := q) (c0 := q) (m := 1) (c := 1) _ _ (by rfl) (by rfl) omk (by rfl) (fun h => by cases h) osl HQ2.out KK.size ?_
            intro Aap cap u26 oap hbb hff hat
            have ltb := Bx.lt bal
            have ltm := (own_block omk rfl).2
            have hne : g25 ≠ g14 := by omega
            have hap : ∀ g', Aap = some ⟨g', 0, none⟩ → g' ≠ g25 := fun g' e e2 => by
              rcases hat g' e with h | h
              · injection h with h; injection h with h _ _; exact hne (e2.symm.trans h.symm)
              · omega
            replace bal := Bx.same bal (hff g25 ltb (by intro e; injection e with e; injection e with e _ _; exact hne e.symm))
            replace hap := Lib.hid hap
            clear ltb ltm hne
            replace KK := KK.trans (hbb.mono (Nat.le_refl _))
            clear hbb hff hat omk obs osl
            refine hK.out _ _ (fun _ => trivial) ?_
            refine wpAnyW_one (i := 10) (by kernel_rfl) rfl (fun K hK => ?_)
            go_simp
            (with_reducible refine (laid_at false oap (by simp) HV.out.1 HV.out.2).mono ?_)
            rintro ex u27 ⟨rfl, ores, hbb⟩
            replace bal := Bx.below bal hbb (Bx.lt bal)
            replace KK := KK.trans (hbb.mono KK.size)
            clear hbb oap
            refine hK.out _ _ (fun _ => trivial) ?_
            refine wpAnyW_one (i := 12) (by kernel_rfl) rfl (fun K hK => ?_)
            obtain ⟨t0, t1, t2, t3⟩ := bal.facts
            go_simp
            refine hK.out _ _ (fun h => absurd h (by simp)) ?_
            refine wpAnyW_done (by kernel_rfl) ?_ _
            go_wp2_with fail
            go_meet
            exact ⟨g25, Aap, cap, rfl, Bx.set bal _ _, (ores.far (p := ⟨g25, 0, none⟩) hap.out _).far (p := ⟨g25, 1, none⟩) hap.out _, (KK.setCell (by simpa using hwal) _).setCell (by simpa using hwal) _, hwal⟩
        · go_simp
          replace omk := Own.alloc omk (.cells #[.bool false, .slice none 0 0] 24)
          have bal := Bx.new u13 (.bool false) (.slice none 0 0)
          have hwal : w4.heap.size ≤ u13.heap.size := KK.size
          have zu28 : u13.heap.size < (u13.alloc (.cells #[.bool false, .slice none 0 0] 24)).heap.size := by simp
          replace KK := Below.alloc KK KK.size (.cells #[.bool false, .slice none 0 0] 24)
          refine hK.out _ _ (fun _ => trivial) ?_
          generalize u13.alloc (.cells #[.bool false, .slice none 0 0] 24) = u28 at *
          generalize u13.heap.size = g29 at *
          refine wpAnyW_one (i := 8) (by kernel_rfl) rfl (fun K hK => ?_)
          go_simp
          replace omk := Own.alloc omk (.cells #[.int .u32 (p : Int)] 48)
          replace bal := Bx.alloc bal (.cells #[.int .u32 (p : Int)] 48)
          have obs := own_one u28 p (B := w4.heap.size) KK.size
          have zu30 : u28.heap.size < (u28.alloc (.cells #[.int .u32 (p : Int)] 48)).heap.size := by simp
          replace KK := Below.alloc KK KK.size (.cells #[.int .u32 (p : Int)] 48)
          refine hK.out _ _ (fun _ => trivial) ?_
          generalize u28.alloc (.cells #[.int .u32 (p : Int)] 48) = u30 at *
          generalize u28.heap.size = g31 at *
          refine wpAnyW_one (i := 9) (by kernel_rfl) rfl (fun K hK => ?_)
          rw [if_pos (by kernel_rfl)]
          have osl := Own.sl obs (Dig.cons HP.out.1 (Dig.nil _)) rfl
          refine wp_append_far (base := w4.heap.size) (l0 := List.replicate q 0) (l := [p]) (A := some ⟨g31, 0, none⟩) (A0 := some ⟨g14, 0, none⟩) (n0 := q) (c0 := q) (m := 1) (c := 1) _ _ (by rfl) (by rfl) omk (by rfl) (fun h => by cases h) osl HQ2.out KK.size ?_
          intro Aap cap u32 oap hbb hff hat
          have ltb := Bx.lt bal
          have ltm := (own_block omk rfl).2
          have hne : g29 ≠ g14 := by omega
          have hap : ∀ g', Aap = some ⟨g', 0, none⟩ → g' ≠ g29 := fun g' e e2 => by
            rcases hat g' e with h | h
            · injection h with h; injection h with h _ _; exact hne (e2.symm.trans h.symm)
            · omega
          replace bal := Bx.same bal (hff g29 ltb (by intro e; injection e with e; injection e with e _ _; exact hne e.symm))
          replace hap := Lib.hid hap
          clear ltb ltm hne
          replace KK := KK.trans (hbb.mono (Nat.le_refl _))
          clear hbb hff hat omk obs osl
          refine hK.out _ _ (fun _ => trivial) ?_
          refine wpAnyW_one (i := 10) (by kernel_rfl) rfl (fun K hK => ?_)
          go_simp
          (with_reducible refine (laid_at false oap (by simp) HV.out.1 HV.out.2).mono ?_)
          rintro ex u33 ⟨rfl, ores, hbb⟩
          replace bal := Bx.below bal hbb (Bx.lt bal)
          replace KK := KK.trans (hbb.mono KK.size)
          clear hbb oap
          refine hK.out _ _ (fun _ => trivial) ?_
          refine wpAnyW_one (i := 12) (by kernel_rfl) rfl (fun K hK => ?_)
          obtain ⟨t0, t1, t2, t3⟩ := bal.facts
          go_simp
          refine hK.out _ _ (fun h => absurd h (by simp)) ?_
          refine wpAnyW_done (by kernel_rfl) ?_ _
          go_wp2_with fail
          go_meet
          exact ⟨g29, Aap, cap, rfl, Bx.set bal _ _, (ores.far (p := ⟨g29, 0, none⟩) hap.out _).far (p := ⟨g29, 1, none⟩) hap.out _, (KK.setCell (by simpa using hwal) _).setCell (by simpa using hwal) _, hwal⟩
      · go_simp
        have obs := own_one u0 p (B := w4.heap.size) KK.size
        have zu34 : u0.heap.size < (u0.alloc (.cells #[.int .u32 (p : Int)] 48)).heap.size := by simp
        replace KK := Below.alloc KK KK.size (.cells #[.int .u32 (p : Int)] 48)
        refine hK.out _ _ (fun _ => trivial) ?_
        generalize u0.alloc (.cells #[.int .u32 (p : Int)] 48) = u34 at *
        generalize u0.heap.size = g35 at *
        refine wpAnyW_two (i := 3) (i2 := 11) (by kernel_rfl) rfl rfl (fun K hK => ?_) (fun K hK => ?_) 
        · go_simp
          replace obs := Own.alloc obs (.cells (madeCells #[.int .u32 0] q) 48)
          have omk := own_zeros u34 q (B := w4.heap.size) KK.size HQ.out
          have zu36 : u34.heap.size < (u34.alloc (.cells (madeCells #[.int .u32 0] q) 48)).heap.size := by simp
          replace KK := Below.alloc KK KK.size (.cells (madeCells #[.int .u32 0] q) 48)
          refine hK.out _ _ (fun _ => trivial) ?_
          generalize u34.alloc (.cells (madeCells #[.int .u32 0] q) 48) = u36 at *
          generalize u34.heap.size = g37 at *
          refine wpAnyW_two (i := 9) (i2 := 11) (by kernel_rfl) rfl rfl (fun K hK => ?_) (fun K hK => ?_) 
          · rw [if_pos (by kernel_rfl)]
            have osl := Own.sl obs (Dig.cons HP.out.1 (Dig.nil _)) rfl
            refine wp_append_far (base := w4.heap.size) (l0 := List.replicate q 0) (l := [p]) (A := some ⟨g35, 0, none⟩) (A0 := some ⟨g37, 0, none⟩) (n0 := q) (c0 := q) (m := 1) (c := 1) _ _ (by rfl) (by rfl) omk (by rfl) (fun h => by cases h) osl HQ2.out KK.size ?_
            intro Aap cap u38 oap hbb hff hat
            replace KK := KK.trans (hbb.mono (Nat.le_refl _))
            clear hbb hff hat omk obs osl
            refine hK.out _ _ (fun _ => trivial) ?_
            refine wpAnyW_two (i := 10) (i2 := 11) (by kernel_rfl) rfl rfl (fun K hK => ?_) (fun K hK => ?_) 
            · go_simp
              (with_reducible refine (laid_at false oap (by simp) HV.out.1 HV.out.2).mono ?_)
              rintro ex u39 ⟨rfl, ores, hbb⟩
              replace KK := KK.trans (hbb.mono KK.size)
              clear hbb oap
              refine hK.out _ _ (fun _ => trivial) ?_
              refine wpAnyW_one (i := 11) (by kernel_rfl) rfl (fun K hK => ?_)
              go_simp
              have hap : ∀ g', Aap = some ⟨g', 0, none⟩ → g' ≠ u39.heap.size := fun g' e => Nat.ne_of_lt (own_block ores e).2
              replace ores := Own.alloc ores (.cells #[.bool false, .slice none 0 0] 24)
              have bal := Bx.new u39 (.bool false) (.slice none 0 0)
              have hwal : w4.heap.size ≤ u39.heap.size := KK.size
              have zu40 : u39.heap.size < (u39.alloc (.cells #[.bool false, .slice none 0 0] 24)).heap.size := by simp
              replace KK := Below.alloc KK KK.size (.cells #[.bool false, .slice none 0 0] 24)
              refine hK.out _ _ (fun _ => trivial) ?_
              replace hap := Lib.hid hap
              generalize u39.alloc (.cells #[.bool false, .slice none 0 0] 24) = u40 at *
              generalize u39.heap.size = g41 at *
              refine wpAnyW_one (i := 12) (by kernel_rfl) rfl (fun K hK => ?_)
              obtain ⟨t0, t1, t2, t3⟩ := bal.facts
              go_simp
              refine hK.out _ _ (fun h => absurd h (by simp)) ?_
              refine wpAnyW_done (by kernel_rfl) ?_ _
              go_wp2_with fail
              go_meet
              exact ⟨g41, Aap, cap, rfl, Bx.set bal _ _, (ores.far (p := ⟨g41, 0, none⟩) hap.out _).far (p := ⟨g41, 1, none⟩) hap.out _, (KK.setCell (by simpa using hwal) _).setCell (by simpa using hwal) _, hwal⟩
            · go_simp
              have hap : ∀ g', Aap = some ⟨g', 0, none⟩ → g' ≠ u38.heap.size := fun g' e => Nat.ne_of_lt (own_block oap e).2
              replace oap := Own.alloc oap (.cells #[.bool false, .slice none 0 0] 24)
              have bal := Bx.new u38 (.bool false) (.slice none 0 0)
              have hwal : w4.heap.size ≤ u38.heap.size := KK.size
              have zu42 : u38.heap.size < (u38.alloc (.cells #[.bool false, .slice none 0 0] 24)).heap.size := by simp
              replace KK := Below.alloc KK KK.size (.cells #[.bool false, .slice none 0 0] 24)
              refine hK.out _ _ (fun _ => trivial) ?_
              replace hap := Lib.hid hap
              generalize u38.alloc (.cells #[.bool false, .slice none 0 0] 24) = u42 at *
              generalize u38.heap.size = g43 at *
              refine wpAnyW_one (i := 10) (by kernel_rfl) rfl (fun K hK => ?_)
              go_simp
              (with_reducible refine (laid_at false oap (by simp) HV.out.1 HV.out.2).mono ?_)
              rintro ex u44 ⟨rfl, ores, hbb⟩
              replace bal := Bx.below bal hbb (Bx.lt bal)
              replace KK := KK.trans (hbb.mono KK.size)
              clear hbb oap
              refine hK.out _ _ (fun _ => trivial) ?_
              refine wpAnyW_one (i := 12) (by kernel_rfl) rfl (fun K hK => ?_)
              obtain ⟨t0, t1, t2, t3⟩ := bal.facts
              go_simp
              refine hK.out _ _ (fun h => absurd h (by simp)) ?_
              refine wpAnyW_done (by kernel_rfl) ?_ _
              go_wp2_with fail
              go_meet
              exact ⟨g43, Aap, cap, rfl, Bx.set bal _ _, (ores.far (p := ⟨g43, 0, none⟩) hap.out _).far (p := ⟨g43, 1, none⟩) hap.out _, (KK.setCell (by simpa using hwal) _).setCell (by simpa using hwal) _, hwal⟩
          · go_simp
            replace obs := Own.alloc obs (.cells #[.bool false, .slice none 0 0] 24)
            replace omk := Own.alloc omk (.cells #[.bool false, .slice none 0 0] 24)
            have bal := Bx.new u36 (.bool false) (.slice none 0 0)
            have hwal : w4.heap.size ≤ u36.heap.size := KK.size
            have zu45 : u36.heap.size < (u36.alloc (.cells #[.bool false, .slice none 0 0] 24)).heap.size := by simp
            replace KK := Below.alloc KK KK.size (.cells #[.bool false, .slice none 0 0] 24)
            refine hK.out _ _ (fun _ => trivial) ?_
            generalize u36.alloc (.cells #[.bool false, .slice none 0 0] 24) = u45 at *
            generalize u36.heap.size = g46 at *
            refine wpAnyW_one (i := 9) (by kernel_rfl) rfl (fun K hK => ?_)
            rw [if_pos (by kernel_rfl)]
            have osl := Own.sl obs (Dig.cons HP.out.1 (Dig.nil _)) rfl
            refine wp_append_far (base := w4.heap.size) (l0 := List.replicate q 0) (l := [p]) (A := some ⟨g35, 0, none⟩) (A0 := some ⟨g37, 0, none⟩) (n0 := q) (c0 := q) (m := 1) (c := 1) _ _ (by rfl) (by rfl) omk (by rfl) (fun h => by cases h) osl HQ2.out KK.size ?_
            intro Aap cap u47 oap hbb hff hat
            have ltb := Bx.lt bal
            have ltm := (own_block omk rfl).2
            have hne : g46 ≠ g37 := by omega
            have hap : ∀ g', Aap = some ⟨g', 0, none⟩ → g' ≠ g46 := fun g' e e2 => by
              rcases hat g' e with h | h
              · injection h with h; injection h with h _ _; exact hne (e2.symm.trans h.symm)
              · omega
            replace bal := Bx.same bal (hff g46 ltb (by intro e; injection e with e; injection e with e _ _; exact hne e.symm))
            replace hap := Lib.hid hap
            clear ltb ltm hne
            replace KK := KK.trans (hbb.mono (Nat.le_refl _))
            clear hbb hff hat omk obs osl
            refine hK.out _ _ (fun _ => trivial) ?_
            refine wpAnyW_one (i := 10) (by kernel_rfl) rfl (fun K hK => ?_)
            go_simp
            (with_reducible refine (laid_at false oap (by simp) HV.out.1 HV.out.2).mono ?_)
            rintro ex u48 ⟨rfl, ores, hbb⟩
            replace bal := Bx.below bal hbb (Bx.lt bal)
            replace KK := KK.trans (hbb.mono KK.size)
            clear hbb oap
            refine hK.out _ _ (fun _ => trivial) ?_
            refine wpAnyW_one (i := 12) (by kernel_rfl) rfl (fun K hK => ?_)
            obtain ⟨t0, t1, t2, t3⟩ := bal.facts
            go_simp
            refine hK.out _ _ (fun h => absurd h (by simp)) ?_
            refine wpAnyW_done (by kernel_rfl) ?_ _
            go_wp2_with fail
            go_meet
            exact ⟨g46, Aap, cap, rfl, Bx.set bal _ _, (ores.far (p := ⟨g46, 0, none⟩) hap.out _).far (p := ⟨g46, 1, none⟩) hap.out _, (KK.setCell (by simpa using hwal) _).setCell (by simpa using hwal) _, hwal⟩
        · go_simp
          replace obs := Own.alloc obs (.cells #[.bool false, .slice none 0 0] 24)
          have bal := Bx.new u34 (.bool false) (.slice none 0 0)
          have hwal : w4.heap.size ≤ u34.heap.size := KK.size
          have zu49 : u34.heap.size < (u34.alloc (.cells #[.bool false, .slice none 0 0] 24)).heap.size := by simp
          replace KK := Below.alloc KK KK.size (.cells #[.bool false, .slice none 0 0] 24)
          refine hK.out _ _ (fun _ => trivial) ?_
          generalize u34.alloc (.cells #[.bool false, .slice none 0 0] 24) = u49 at *
          generalize u34.heap.size = g50 at *
          refine wpAnyW_one (i := 3) (by kernel_rfl) rfl (fun K hK => ?_)
          go_simp
          replace obs := Own.alloc obs (.cells (madeCells #[.int .u32 0] q) 48)
          replace bal := Bx.alloc bal (.cells (madeCells #[.int .u32 0] q) 48)
          have omk := own_zeros u49 q (B := w4.heap.size) KK.size HQ.out
          have zu51 : u49.heap.size < (u49.alloc (.cells (madeCells #[.int .u32 0] q) 48)).heap.size := by simp
          replace KK := Below.alloc KK KK.size (.cells (madeCells #[.int .u32 0] q) 48)
          refine hK.out _ _ (fun _ => trivial) ?_
          generalize u49.alloc (.cells (madeCells #[.int .u32 0] q) 48) = u51 at *
          generalize u49.heap.size = g52 at *
          refine wpAnyW_one (i := 9) (by kernel_rfl) rfl (fun K hK => ?_)
          rw [if_pos (by kernel_rfl)]
          have osl := Own.sl obs (Dig.cons HP.out.1 (Dig.nil _)) rfl
          refine wp_append_far (base := w4.heap.size) (l0 := List.replicate q 0) (l := [p]) (A := some ⟨g35, 0, none⟩) (A0 := some ⟨g52, 0, none⟩) (n0 := q) (c0 := q) (m := 1) (c := 1) _ _ (by rfl) (by rfl) omk (by rfl) (fun h => by cases h) osl HQ2.out KK.size ?_
          intro Aap cap u53 oap hbb hff hat
          have ltb := Bx.lt bal
          have ltm := (own_block omk rfl).2
          have hne : g50 ≠ g52 := by omega
          have hap : ∀ g', Aap = some ⟨g', 0, none⟩ → g' ≠ g50 := fun g' e e2 => by
            rcases hat g' e with h | h
            · injection h with h; injection h with h _ _; exact hne (e2.symm.trans h.symm)
            · omega
          replace bal := Bx.same bal (hff g50 ltb (by intro e; injection e with e; injection e with e _ _; exact hne e.symm))
          replace hap := Lib.hid hap
          clear ltb ltm hne
          replace KK := KK.trans (hbb.mono (Nat.le_refl _))
          clear hbb hff hat omk obs osl
          refine hK.out _ _ (fun _ => trivial) ?_
          refine wpAnyW_one (i := 10) (by kernel_rfl) rfl (fun K hK => ?_)
          go_simp
          (with_reducible refine (laid_at false oap (by simp) HV.out.1 HV.out.2).mono ?_)
          rintro ex u54 ⟨rfl, ores, hbb⟩
          replace bal := Bx.below bal hbb (Bx.lt bal)
          replace KK := KK.trans (hbb.mono KK.size)
          clear hbb oap
          refine hK.out _ _ (fun _ => trivial) ?_
          refine wpAnyW_one (i := 12) (by kernel_rfl) rfl (fun K hK => ?_)
          obtain ⟨t0, t1, t2, t3⟩ := bal.facts
          go_simp
          refine hK.out _ _ (fun h => absurd h (by simp)) ?_
          refine wpAnyW_done (by kernel_rfl) ?_ _
          go_wp2_with fail
          go_meet
          exact ⟨g50, Aap, cap, rfl, Bx.set bal _ _, (ores.far (p := ⟨g50, 0, none⟩) hap.out _).far (p := ⟨g50, 1, none⟩) hap.out _, (KK.setCell (by simpa using hwal) _).setCell (by simpa using hwal) _, hwal⟩
      · go_simp
        have bal := Bx.new u0 (.bool false) (.slice none 0 0)
        have hwal : w4.heap.size ≤ u0.heap.size := KK.size
        have zu55 : u0.heap.size < (u0.alloc (.cells #[.bool false, .slice none 0 0] 24)).heap.size := by simp
        replace KK := Below.alloc KK KK.size (.cells #[.bool false, .slice none 0 0] 24)
        refine hK.out _ _ (fun _ => trivial) ?_
        generalize u0.alloc (.cells #[.bool false, .slice none 0 0] 24) = u55 at *
        generalize u0.heap.size = g56 at *
        refine wpAnyW_two (i := 3) (i2 := 8) (by kernel_rfl) rfl rfl (fun K hK => ?_) (fun K hK => ?_) 
        · go_simp
          replace bal := Bx.alloc bal (.cells (madeCells #[.int .u32 0] q) 48)
          have omk := own_zeros u55 q (B := w4.heap.size) KK.size HQ.out
          have zu57 : u55.heap.size < (u55.alloc (.cells (madeCells #[.int .u32 0] q) 48)).heap.size := by simp
          replace KK := Below.alloc KK KK.size (.cells (madeCells #[.int .u32 0] q) 48)
          refine hK.out _ _ (fun _ => trivial) ?_
          generalize u55.alloc (.cells (madeCells #[.int .u32 0] q) 48) = u57 at *
          generalize u55.heap.size = g58 at *
          refine wpAnyW_one (i := 8) (by kernel_rfl) rfl (fun K hK => ?_)
          go_simp
          replace bal := Bx.alloc bal (.cells #[.int .u32 (p : Int)] 48)
          replace omk := Own.alloc omk (.cells #[.int .u32 (p : Int)] 48)
          have obs := own_one u57 p (B := w4.heap.size) KK.size
          have zu59 : u57.heap.size < (u57.alloc (.cells #[.int .u32 (p : Int)] 48)).heap.size := by simp
          replace KK := Below.alloc KK KK.size (.cells #[.int .u32 (p : Int)] 48)
          refine hK.out _ _ (fun _ => trivial) ?_
          generalize u57.alloc (.cells #[.int .u32 (p : Int)] 48) = u59 at *
          generalize u57.heap.size = g60 at *
          refine wpAnyW_one (i := 9) (by kernel_rfl) rfl (fun K hK => ?_)
          rw [if_pos (by kernel_rfl)]
          have osl := Own.sl obs (Dig.cons HP.out.1 (Dig.nil _)) rfl
          refine wp_append_far (base := w4.heap.size) (l0 := List.replicate q 0) (l := [p]) (A := some ⟨g60, 0, none⟩) (A0 := some ⟨g58, 0, none⟩) (n0 := q) (c0 := q) (m := 1) (c := 1) _ _ (by rfl) (by rfl) omk (by rfl) (fun h => by cases h) osl HQ2.out KK.size ?_
          intro Aap cap u61 oap hbb hff hat
          have ltb := Bx.lt bal
          have ltm := (own_block omk rfl).2
          have hne : g56 ≠ g58 := by omega
          have hap : ∀ g', Aap = some ⟨g', 0, none⟩ → g' ≠ g56 := fun g' e e2 => by
            rcases hat g' e with h | h
            · injection h with h; injection h with h _ _; exact hne (e2.symm.trans h.symm)
            · omega
          replace bal := Bx.same bal (hff g56 ltb (by intro e; injection e with e; injection e with e _ _; exact hne e.symm))
          replace hap := Lib.hid hap
          clear ltb ltm hne
          replace KK := KK.trans (hbb.mono (Nat.le_refl _))
          clear hbb hff hat omk obs osl
          refine hK.out _ _ (fun _ => trivial) ?_
          refine wpAnyW_one (i := 10) (by kernel_rfl) rfl (fun K hK => ?_)
          go_simp
          (with_reducible refine (laid_at false oap (by simp) HV.out.1 HV.out.2).mono ?_)
          rintro ex u62 ⟨rfl, ores, hbb⟩
          replace bal := Bx.below bal hbb (Bx.lt bal)
          replace KK := KK.trans (hbb.mono KK.size)
          clear hbb oap
          refine hK.out _ _ (fun _ => trivial) ?_
          refine wpAnyW_one (i := 12) (by kernel_rfl) rfl (fun K hK => ?_)
          obtain ⟨t0, t1, t2, t3⟩ := bal.facts
          go_simp
          refine hK.out _ _ (fun h => absurd h (by simp)) ?_
          refine wpAnyW_done (by kernel_rfl) ?_ _
          go_wp2_with fail
          go_meet
          exact ⟨g56, Aap, cap, rfl, Bx.set bal _ _, (ores.far (p := ⟨g56, 0, none⟩) hap.out _).far (p := ⟨g56, 1, none⟩) hap.out _, (KK.setCell (by simpa using hwal) _).setCell (by simpa using hwal) _, hwal⟩
        · go_simp
          replace bal := Bx.alloc bal (.cells #[.int .u32 (p : Int)] 48)
          have obs := own_one u55 p (B := w4.heap.size) KK.size
          have zu63 : u55.heap.size < (u55.alloc (.cells #[.int .u32 (p : Int)] 48)).heap.size := by simp
          replace KK := Below.alloc KK KK.size (.cells #[.int .u32 (p : Int)] 48)
          refine hK.out _ _ (fun _ => trivial) ?_
          generalize u55.alloc (.cells #[.int .u32 (p : Int)] 48) = u63 at *
          generalize u55.heap.size = g64 at *
          refine wpAnyW_one (i := 3) (by kernel_rfl) rfl (fun K hK => ?_)
          go_simp
          replace bal := Bx.alloc bal (.cells (madeCells #[.int .u32 0] q) 48)
          replace obs := Own.alloc obs (.cells (madeCells #[.int .u32 0] q) 48)
          have omk := own_zeros u63 q (B := w4.heap.size) KK.size HQ.out
          have zu65 : u63.heap.size < (u63.alloc (.cells (madeCells #[.int .u32 0] q) 48)).heap.size := by simp
          replace KK := Below.alloc KK KK.size (.cells (madeCells #[.int .u32 0] q) 48)
          refine hK.out _ _ (fun _ => trivial) ?_
          generalize u63.alloc (.cells (madeCells #[.int .u32 0] q) 48) = u65 at *
          generalize u63.heap.size = g66 at *
          refine wpAnyW_one (i := 9) (by kernel_rfl) rfl (fun K hK => ?_)
          rw [if_pos (by kernel_rfl)]
          have osl := Own.sl obs (Dig.cons HP.out.1 (Dig.nil _)) rfl
          refine wp_append_far (base := w4.heap.size) (l0 := List.replicate q 0) (l := [p]) (A := some ⟨g64, 0, none⟩) (A0 := some ⟨g66, 0, none⟩) (n0 := q) (c0 := q) (m := 1) (c := 1) _ _ (by rfl) (by rfl) omk (by rfl) (fun h => by cases h) osl HQ2.out KK.size ?_
          intro Aap cap u67 oap hbb hff hat
          have ltb := Bx.lt bal
          have ltm := (own_block omk rfl).2
          have hne : g56 ≠ g66 := by omega
          have hap : ∀ g', Aap = some ⟨g', 0, none⟩ → g' ≠ g56 := fun g' e e2 => by
            rcases hat g' e with h | h
            · injection h with h; injection h with h _ _; exact hne (e2.symm.trans h.symm)
            · omega
          replace bal := Bx.same bal (hff g56 ltb (by intro e; injection e with e; injection e with e _ _; exact hne e.symm))
          replace hap := Lib.hid hap
          clear ltb ltm hne
          replace KK := KK.trans (hbb.mono (Nat.le_refl _))
          clear hbb hff hat omk obs osl
          refine hK.out _ _ (fun _ => trivial) ?_
          refine wpAnyW_one (i := 10) (by kernel_rfl) rfl (fun K hK => ?_)
          go_simp
          (with_reducible refine (laid_at false oap (by simp) HV.out.1 HV.out.2).mono ?_)
          rintro ex u68 ⟨rfl, ores, hbb⟩
          replace bal := Bx.below bal hbb (Bx.lt bal)
          replace KK := KK.trans (hbb.mono KK.size)
          clear hbb oap
          refine hK.out _ _ (fun _ => trivial) ?_
          refine wpAnyW_one (i := 12) (by kernel_rfl) rfl (fun K hK => ?_)
          obtain ⟨t0, t1, t2, t3⟩ := bal.facts
          go_simp
          refine hK.out _ _ (fun h => absurd h (by simp)) ?_
          refine wpAnyW_done (by kernel_rfl) ?_ _
          go_wp2_with fail
          go_meet
          exact ⟨g56, Aap, cap, rfl, Bx.set bal _ _, (ores.far (p := ⟨g56, 0, none⟩) hap.out _).far (p := ⟨g56, 1, none⟩) hap.out _, (KK.setCell (by simpa using hwal) _).setCell (by simpa using hwal) _, hwal⟩
  obtain ⟨g, A2, c2, rfl, hgx, hgo, hgb, hgw⟩ := hcut
  have hzc := hgb.size
  have hlg := hgx.lt
  replace H1 := Lib.hid (H1.out.below hgb (Bx.lt H1.out))
  replace H2 := Lib.hid (H2.out.below hgb (Bx.lt H2.out))
  replace H3 := Lib.hid (H3.out.trans (hgb.mono H3.out.size))
  clear hgb a0 a1 r0 r1 r2 r3 hqI hrI hpI hpM hmk hneg hm1 hm2 HQ HQ2 HP HV
  obtain ⟨a0, a1, _, _⟩ := H1.out.facts
  obtain ⟨b0, b1, _, _⟩ := hgx.facts
  have HG := Lib.hid hgx
  have HO := Lib.hid (Own.int hgo)
  clear hgx hgo
  go_wp2_with fail
  (with_reducible refine (divide_any (HSl.out _ H3.out).1 HO.out (Nat.le_trans HN.out (by decide)) (HSl.out _ H3.out).2 (Nat.le_refl _) (by rw [HPV.out]; exact Nat.ne_of_gt (Nat.two_pow_pos m))).mono ?_)
  rintro ex w6 ⟨A3, A4, n3, c3, n4, c4, o1, o2, rfl, hq1, hq2, hq3, hq4, hq5, hr1, hr2, hr3, hr4, hr5, -, hb6⟩
  rw [HPV.out] at hq4 hr4
  have hz6 := hb6.size
  replace H1 := Lib.hid (H1.out.below hb6 (Bx.lt H1.out))
  replace H2 := Lib.hid (H2.out.below hb6 (Bx.lt H2.out))
  replace H3 := Lib.hid (H3.out.trans (hb6.mono H3.out.size))
  obtain ⟨z1, hz1⟩ : ∃ z1, ival neg o1 = z1 := ⟨_, rfl⟩
  have HV1 := Lib.hid hz1
  have HQ1 := Lib.hid (And.intro hq2 (And.intro hq3 (And.intro hq4 hq5)))
  have HQo := Lib.hid hq1
  have HR := Lib.hid (Own.sl hr1 hr3 hr2)
  have HR4 := Lib.hid hr4
  have hlt0 : w.heap.size + 1 < wc.heap.size := by have := Bx.lt H2.out; omega
  clear hb6 a0 a1 b0 b1 HG HO hz1 hq1 hq2 hq3 hq4 hq5 hr1 hr2 hr3 hr4 hr5
  obtain ⟨a0, a1, _, _⟩ := H1.out.facts
  go_wp2_with fail
  (with_reducible refine (laid_at neg HQo.out HQ1.out.1 HQ1.out.2.1 HV1.out).mono ?_)
  rintro ex w7 ⟨rfl, ho7, hb7⟩
  have hz7 := hb7.size
  replace H1 := Lib.hid (H1.out.below hb7 (Bx.lt H1.out))
  replace H2 := Lib.hid (H2.out.below hb7 (Bx.lt H2.out))
  replace H3 := Lib.hid (H3.out.trans (hb7.mono H3.out.size))
  have HR7 := Lib.hid (SlU.to HR.out hb7 (Nat.le_refl _))
  have HO7 := Lib.hid ho7
  have HL1 := Lib.hid (show (digs W z1.natAbs).length ≤ 67108864 by
    have h1 : z1.natAbs = nv W o1 := by rw [← HV1.out, ival_natAbs]
    have h2 := nv_lt HQ1.out.2.1
    have h3 := digs_length_le (n := nv W o1) (k := n + 1) (by decide) (Nat.lt_of_lt_of_le h2 (Nat.pow_le_pow_right (by decide) (by rw [HQ1.out.1]; exact HQ1.out.2.2.2)))
    have h4 := HN.out
    rw [h1]; omega)
  have OV := Lib.hid (Own.alloc ho7 (.cells #[.bool (decide (z1 < 0)), .slice A3 (digs W z1.natAbs).length c3] 24))
  have G1 := Lib.hid (Bx.new w7 (.bool (decide (z1 < 0))) (.slice A3 (digs W z1.natAbs).length c3))
  have hG7 : wc.heap.size ≤ w7.heap.size := by omega
  have hz8 : w7.heap.size < (w7.alloc (.cells #[.bool (decide (z1 < 0)), .slice A3 (digs W z1.natAbs).length c3] 24)).heap.size := by simp
  have hneG : w.heap.size + 1 ≠ w7.heap.size := by omega
  have H18 := Lib.hid (Bx.alloc H1.out (.cells #[.bool (decide (z1 < 0)), .slice A3 (digs W z1.natAbs).length c3] 24))
  have H28 := Lib.hid (Bx.alloc H2.out (.cells #[.bool (decide (z1 < 0)), .slice A3 (digs W z1.natAbs).length c3] 24))
  have H38 := Lib.hid (Below.alloc H3.out H3.out.size (.cells #[.bool (decide (z1 < 0)), .slice A3 (digs W z1.natAbs).length c3] 24))
  have HR8 := Lib.hid (SlU.to HR7.out ((Below.refl w7.heap.size w7).alloc (Nat.le_refl _) (.cells #[.bool (decide (z1 < 0)), .slice A3 (digs W z1.natAbs).length c3] 24)) (Nat.le_refl _))
  clear ho7 hb7 a0 a1 H1 H2 H3 HR7 HO7 HR
  go_upto_region 14 with fail
  generalize (w7.alloc (.cells #[.bool (decide (z1 < 0)), .slice A3 (digs W z1.natAbs).length c3] 24)) = w8 at *
  generalize w7.heap.size = G at *
  obtain ⟨a0, a1, _, _⟩ := H18.out.facts
  obtain ⟨r0, r1, r2, r3⟩ := H28.out.facts
  obtain ⟨g0, g1, _, _⟩ := G1.out.facts
  have HZC : Hid (Z = if neg then (if nv W l % 2 ^ m = 0 then -((nv W l / 2 ^ m : Nat) : Int) else -((nv W l / 2 ^ m : Nat) : Int) + -1) else ((nv W l / 2 ^ m : Nat) : Int)) := Lib.hid (by
    rw [← HZ.out, HIV.out]
    cases neg
    · exact down_pos _ _
    · simp only [if_true]
      split
      · rename_i h; exact down_neg0 h
      · rename_i h; exact down_neg1 h)
  have HZ1 : Hid (z1 = if neg then -((nv W l / 2 ^ m : Nat) : Int) else ((nv W l / 2 ^ m : Nat) : Int)) := Lib.hid (by
    rw [← HV1.out]; unfold ival; rw [HQ1.out.2.2.1])
  cases neg
  · have HE := Lib.hid (show z1 = Z by rw [HZC.out, HZ1.out]; rfl)
    go_wp2
    have hr := ResI.stored (w := w) (g := w.heap.size + 1) (u := .bool (decide (z1 < 0))) (u' := .slice A3 (digs W z1.natAbs).length c3) ⟨A3, c3, rfl, OV.out⟩ H38.out (by omega) (by omega)
    exact bodyPost_ret (v := .tuple #[.agg #[.bool (decide (z1 < 0)), .slice A3 (digs W z1.natAbs).length c3], .int .i64 0]) (by simp [results, Try.results55, go_sem, r0, r1]) rfl (PostC.ok rfl (by rw [← HE.out]; exact hr.1) hr.2)
  · by_cases hrm : nv W l % 2 ^ m = 0
    · have HE := Lib.hid (show z1 = Z by rw [HZC.out, HZ1.out]; simp [hrm])
      have ht := (tlen_zero_iff (b := W) (by decide) o2).2 (by rw [HR4.out]; exact hrm)
      have HT := Lib.hid (trim_any HR8.out)
      rw [ht] at HT
      clear ht hrm
      go_wp2_with fail
      refine (HT.out).mono ?_
      rintro ex w7' ⟨rfl, rfl⟩
      go_wp2
      have hr := ResI.stored (w := w) (g := w.heap.size + 1) (u := .bool (decide (z1 < 0))) (u' := .slice A3 (digs W z1.natAbs).length c3) ⟨A3, c3, rfl, OV.out⟩ H38.out (by omega) (by omega)
      exact bodyPost_ret (v := .tuple #[.agg #[.bool (decide (z1 < 0)), .slice A3 (digs W z1.natAbs).length c3], .int .i64 0]) (by simp [results, Try.results55, go_sem, r0, r1]) rfl (PostC.ok rfl (by rw [← HE.out]; exact hr.1) hr.2)
    · have HE := Lib.hid (show z1 + -1 = Z by rw [HZC.out, HZ1.out]; simp [hrm])
      have ht : 0 < tlen o2 := Nat.pos_of_ne_zero (fun e => hrm (by rw [← HR4.out]; exact (tlen_zero_iff (b := W) (by decide) o2).1 e))
      have htI : decide ((0 : Int) < (tlen o2 : Int)) = true := decide_eq_true (by omega)
      have htN : decide (0 < tlen o2) = true := decide_eq_true ht
      have HT := Lib.hid (trim_any HR8.out)
      generalize tlen o2 = tn at *
      clear hrm
      go_wp2_with fail
      refine (HT.out).mono ?_
      rintro ex w7' ⟨rfl, rfl⟩
      go_upto_region 15 with fail
      obtain ⟨m1, hm1⟩ : ∃ m1 : Int, m1 = -1 := ⟨_, rfl⟩
      have HM1 := Lib.hid (fun w1 => from_at (m1 := m1) w1 hm1)
      have HL9 := Lib.hid (show (digs W m1.natAbs).length ≤ 67108864 from Nat.le_trans (digs_length_le (k := 1) (by decide) (by rw [hm1]; decide)) (by decide))
      have HE2 := Lib.hid (show z1 + m1 = Z by rw [hm1]; exact HE.out)
      clear hm1
      have KK : Below w8.heap.size w8 w8.drew := (Below.refl _ _).drew
      have hS := Lib.hid (fun w' (hb : Below w8.heap.size w8 w') => And.intro (G1.out.below hb (Bx.lt G1.out)).facts.1 (G1.out.below hb (Bx.lt G1.out)).facts.2.1)
      refine wp_region_wait (fun w' => w'.cell? ⟨G, 0, none⟩ = some (.bool (decide (z1 < 0))) ∧ w'.cell? ⟨G, 1, none⟩ = some (.slice A3 (digs W z1.natAbs).length c3)) 3 (by kernel_rfl) ?_
      change wpAnyW _ _ _ _ _ _ _ _ _ w8.drew
      refine wpAnyW_take 3 (i := 0) (v := .agg #[.bool (decide (z1 < 0)), .slice A3 (digs W z1.natAbs).length c3]) rfl (by kernel_rfl) (by kernel_rfl) (by kernel_rfl) (by kernel_rfl) (fun _ _ _ h => h) (Or.inl ⟨by kernel_rfl, fun w5 hSw => by go_simp⟩) (hS.out _ KK) ?_
      refine wpAnyW_one (i := 1) (by kernel_rfl) rfl (fun K hK => ?_)
      go_simp
      (with_reducible refine (HM1.out _).mono ?_)
      rintro ex w9 ⟨v, rfl, ⟨A9, c9, rfl, ho9⟩, hb9⟩
      replace KK := KK.trans (hb9.mono KK.size)
      refine hK.out _ _ (fun _ => hS.out _ KK) ?_
      refine wpAnyW_one (i := 2) (by kernel_rfl) rfl (fun K hK => ?_)
      go_simp
      (with_reducible refine (sum_own2 (OV.out.below KK (Nat.le_refl _)) HL1.out ho9 HL9.out HE2.out).mono ?_)
      rintro ex w10 ⟨v, rfl, ⟨A10, c10, rfl, ho10⟩, hb10⟩
      have hz9 := KK.size
      replace KK := KK.trans (hb10.mono KK.size)
      refine hK.out _ _ (fun _ => hS.out _ KK) ?_
      refine wpAnyW_one (i := 3) (by kernel_rfl) rfl (fun K hK => ?_)
      have G2 := Lib.hid (G1.out.below KK (Bx.lt G1.out))
      obtain ⟨t0, t1, t2, t3⟩ := G2.out.facts
      go_simp
      refine hK.out _ _ (fun h => absurd h (by simp)) ?_
      refine wpAnyW_done (by kernel_rfl) ?_ _
      have H28' := Lib.hid (H28.out.below KK (Bx.lt H28.out))
      have H38' := Lib.hid (H38.out.trans (KK.mono H38.out.size))
      have hgn : w.heap.size + 1 ≠ G := hneG
      have G3 := Lib.hid (Bx.set G2.out (.bool (decide (Z < 0))) (.slice A10 (digs W Z.natAbs).length c10))
      have H29 := Lib.hid (Bx.far (Bx.far H28'.out (p := ⟨G, 0, none⟩) hgn (.bool (decide (Z < 0)))) (p := ⟨G, 1, none⟩) hgn (.slice A10 (digs W Z.natAbs).length c10))
      have hG9 : G < w9.heap.size := by omega
      have O11 := Lib.hid (Own.farB (Own.farB ho10 (p := ⟨G, 0, none⟩) hG9 (.bool (decide (Z < 0)))) (p := ⟨G, 1, none⟩) hG9 (.slice A10 (digs W Z.natAbs).length c10))
      have H39 := Lib.hid ((H38'.out.setCell (p := ⟨G, 0, none⟩) (by simp; omega) (.bool (decide (Z < 0)))).setCell (p := ⟨G, 1, none⟩) (by simp; omega) (.slice A10 (digs W Z.natAbs).length c10))
      generalize ((w10.setCell ⟨G, 0, none⟩ (.bool (decide (Z < 0)))).setCell ⟨G, 1, none⟩ (.slice A10 (digs W Z.natAbs).length c10)) = w11 at *
      clear r0 r1 r2 r3 a0 a1 g0 g1 t0 t1 t2 t3 KK hb9 hb10 ho9 ho10
      obtain ⟨g0, g1, _, _⟩ := G3.out.facts
      obtain ⟨r0, r1, r2, r3⟩ := H29.out.facts
      go_wp2
      have hr := ResI.stored (w := w) (g := w.heap.size + 1) (u := .bool (decide (Z < 0))) (u' := .slice A10 (digs W Z.natAbs).length c10) ⟨A10, c10, rfl, O11.out⟩ H39.out (by omega) (by omega)
      exact bodyPost_ret (v := .tuple #[.agg #[.bool (decide (Z < 0)), .slice A10 (digs W Z.natAbs).length c10], .int .i64 0]) (by simp [results, Try.results55, go_sem, r0, r1]) rfl (PostC.ok rfl hr.1 hr.2)
end Go.Proofs.Ytggdmhkdmkldoaa
