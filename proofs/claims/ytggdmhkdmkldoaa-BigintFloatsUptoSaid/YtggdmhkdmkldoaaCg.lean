import Derived.Test.YtggdmhkdmkldoaaCf
namespace Go.Proofs.Ytggdmhkdmkldoaa
open Go.RowKit Hb

def pwCode (lg : Bool) (x n : Int) : Int := if lg then 10 else if n < 0 then 15 else err (tooLong (x ^ n.toNat))
/-- boxed, the result's variable made, laid in a slice -/
abbrev P1w (w : World) (neg : Bool) (A : Option Addr) (n c : Nat) : World := ((w.alloc (.cells #[.bool neg, .slice A n c] 24)).alloc (.cells #[.bool false, .slice none 0 0] 24)).alloc (.cells #[.bool neg, .slice A n c] 24)
theorem P1w_below (w : World) (neg : Bool) (A : Option Addr) (n c : Nat) : Below w.heap.size w (P1w w neg A n c) := (((Below.refl _ _).alloc (Nat.le_refl _) _).alloc (by simp) _).alloc (by simp; omega) _
theorem P1w_bx (w : World) (neg : Bool) (A : Option Addr) (n c : Nat) : Bx (P1w w neg A n c) w.heap.size (.bool neg) (.slice A n c) ∧ Bx (P1w w neg A n c) (w.heap.size + 1) (.bool false) (.slice none 0 0) := by
  refine ⟨((Bx.new w (.bool neg) (.slice A n c)).alloc _).alloc _, ?_⟩
  have := (Bx.new (w.alloc (.cells #[.bool neg, .slice A n c] 24)) (.bool false) (.slice none 0 0)).alloc (.cells #[.bool neg, .slice A n c] 24)
  simpa only [World.size_alloc] using this
theorem P1w_long {w : World} {neg : Bool} {B : Nat} {A : Option Addr} {l : List Nat} {n c : Nat} (hs : SlU w B A n c l) (hn : n ≤ 67108864) (hB : B ≤ w.heap.size) :
    Calls Try.prog 69 #[.slice (some ⟨w.heap.size + 1 + 1, 0, none⟩) 1 1] (P1w w neg A n c) (LongPost (lng l) (P1w w neg A n c)) := by
  have hb := P1w_below w neg A n c
  have hf := (Bx.new ((w.alloc (.cells #[.bool neg, .slice A n c] 24)).alloc (.cells #[.bool false, .slice none 0 0] 24)) (.bool neg) (.slice A n c)).facts
  simp only [World.size_alloc] at hf
  exact long1_any (neg := neg) (hs.below hb hB) hn (Nat.le_trans hB hb.size) hf.1 hf.2.1
/-- behind that call -/
theorem P1w_after {w w3 : World} {neg : Bool} {A : Option Addr} {n c : Nat} (hb : Below (P1w w neg A n c).heap.size (P1w w neg A n c) w3) :
    Bx w3 w.heap.size (.bool neg) (.slice A n c) ∧ Bx w3 (w.heap.size + 1) (.bool false) (.slice none 0 0) ∧ Below w.heap.size w w3 ∧ w.heap.size + 1 + 1 + 1 ≤ w3.heap.size := by
  obtain ⟨h1, h2⟩ := P1w_bx w neg A n c
  have hz := hb.size
  simp at hz
  exact ⟨h1.below hb (by first | omega | (simp; done) | (simp; omega)), h2.below hb (by first | omega | (simp; done) | (simp; omega)), (P1w_below w neg A n c).trans (hb.mono (by first | omega | (simp; done) | (simp; omega))), by omega⟩
theorem pw_small {x : Int} (h : x.natAbs < 2) (n : Nat) : tooLong (x ^ n) = false := by
  rw [tooLong_iff, Int.natAbs_pow]
  have h1 : x.natAbs ^ n ≤ 1 := by
    have : x.natAbs ≤ 1 := by omega
    calc x.natAbs ^ n ≤ 1 ^ n := Nat.pow_le_pow_left this n
      _ = 1 := Nat.one_pow n
  have h2 : 1 < 2 ^ 4096 := one_lt_M
  exact decide_eq_false (Classical.not_not.2 (Nat.lt_of_le_of_lt h1 h2))
theorem pw_great {x : Int} (h : ¬ x.natAbs < 2) {n : Nat} (hn : 4096 < n) : tooLong (x ^ n) = true := by
  rw [tooLong_iff, Int.natAbs_pow]
  have h1 : 2 ^ n ≤ x.natAbs ^ n := Nat.pow_le_pow_left (by omega) n
  have h2 : 2 ^ 4096 ≤ 2 ^ n := Nat.pow_le_pow_right (n := 2) (i := 4096) (by decide) (by omega)
  exact decide_eq_true (by omega)
theorem pw_mono {x : Int} (h : ¬ x.natAbs < 2) {k n : Nat} (hk : k ≤ n) (ht : tooLong (x ^ k) = true) : tooLong (x ^ n) = true := by
  rw [tooLong_iff, Int.natAbs_pow] at ht ⊢
  have h1 : x.natAbs ^ k ≤ x.natAbs ^ n := Nat.pow_le_pow_right (by omega) hk
  have := of_decide_eq_true ht
  exact decide_eq_true (by omega)
theorem pow_unit {neg : Bool} {l : List Nat} (h : nv W l < 2) {n : Nat} (hn : 0 < n) : ival (neg && decide (n % 2 = 1)) l = ival neg l ^ n := by
  obtain ⟨m, rfl⟩ : ∃ m, n = m + 1 := ⟨n - 1, by omega⟩
  rcases (show nv W l = 0 ∨ nv W l = 1 by omega) with h | h
  · simp [ival, h, Int.zero_pow (show m + 1 ≠ 0 by omega)]
  · cases neg
    · simp [ival, h, Int.one_pow]
    · simp only [Bool.true_and, ival, h, if_true]
      by_cases hp : (m + 1) % 2 = 1
      · rw [decide_eq_true hp, if_pos rfl]
        obtain ⟨q, hq⟩ : ∃ q, m + 1 = 2 * q + 1 := ⟨m / 2, by omega⟩
        rw [hq, Int.pow_succ, Int.pow_mul]; simp [Int.one_pow]
      · rw [decide_eq_false hp, if_neg (by simp)]
        obtain ⟨q, hq⟩ : ∃ q, m + 1 = 2 * q := ⟨(m + 1) / 2, by omega⟩
        rw [hq, Int.pow_mul]; simp [Int.one_pow]
/-- the power that stands in the variable at block G -/
def PwRel (w4 : World) (B3 G : Nat) (z : Int) (wr : World) : Prop :=
  ∃ A c, Bx wr G (.bool (decide (z < 0))) (.slice A (digs W z.natAbs).length c) ∧ OwnU wr B3 A (digs W z.natAbs).length c (u32s (digs W z.natAbs)) ∧ (∀ g, A = some ⟨g, 0, none⟩ → g ≠ G) ∧ Below G w4 wr
theorem not_too_len {z : Int} (h : tooLong z = false) : (digs W z.natAbs).length ≤ 128 := by
  rw [tooLong_iff] at h
  have := Classical.not_not.1 (of_decide_eq_false h)
  exact digs_length_le (k := 128) (by decide) (by rw [W128]; exact this)
theorem ival_digs_mul (z : Int) (neg : Bool) {l out : List Nat} (h : nv W out = nv W (digs W z.natAbs) * nv W l) : ival (!(decide (z < 0) == neg)) out = z * ival neg l := by
  rw [ival_mul (decide (z < 0)) neg h, ival_digs]

set_option maxRecDepth 100000 in
set_option maxHeartbeats 1000000 in
theorem Pow_bad (neg : Bool) {B : Nat} {A : Option Addr} {l : List Nat} {n c : Nat} {w : World} (hs : SlU w B A n c l) (hn : n ≤ 67108864) (hB : B ≤ w.heap.size) (k : Int) (hbad : lng l = true ∨ k < 0) (z : Int) :
    Calls Try.prog 54 #[.agg #[.bool neg, .slice A n c], .int .i64 k] w (PostC w z (pwCode (lng l) (ival neg l) k)) := by
  have HL := Lib.hid (P1w_long (neg := neg) hs hn hB)
  cases hb : lng l
  · rw [hb] at HL
    have hk : k < 0 := by
      rcases hbad with h | h
      · rw [hb] at h; cases h
      · exact h
    have d1 : decide (k < 0) = true := decide_eq_true hk
    have HC := Lib.hid (show pwCode false (ival neg l) k = 15 by rw [pwCode, if_neg (by simp), if_pos hk])
    clear hbad hb hs hn hB hk
    go_enter Try.func54, Try.ntmps54
    go_wp2_with fail
    refine HL.out.mono ?_
    rintro ex w3 ⟨rfl, hb3⟩
    obtain ⟨h1, h2, h3, h4⟩ := P1w_after hb3
    obtain ⟨r0, r1, r2, r3⟩ := h2.facts
    have H3 := Lib.hid h3
    clear h1 h2 h3 hb3
    go_wp2
    exact bodyPost_ret (v := .tuple #[zeroV, .int .i64 15]) (by simp [results, Try.results54, go_sem, r0, r1]) rfl
      (PostC.bad HC.out (by decide) ((H3.out.setCell (by simp) _).setCell (by simp) _))
  · rw [hb] at HL
    have HC := Lib.hid (show pwCode true (ival neg l) k = 10 by rw [pwCode, if_pos rfl])
    clear hbad hb hs hn hB
    go_enter Try.func54, Try.ntmps54
    go_wp2_with fail
    refine HL.out.mono ?_
    rintro ex w3 ⟨rfl, hb3⟩
    obtain ⟨h1, h2, h3, h4⟩ := P1w_after hb3
    obtain ⟨r0, r1, r2, r3⟩ := h2.facts
    have H3 := Lib.hid h3
    clear h1 h2 h3 hb3
    go_wp2
    exact bodyPost_ret (v := .tuple #[zeroV, .int .i64 10]) (by simp [results, Try.results54, go_sem, r0, r1]) rfl
      (PostC.bad HC.out (by decide) ((H3.out.setCell (by simp) _).setCell (by simp) _))

/-- From(1), as the walk writes it -/
theorem from_one {o1 : Int} (w : World) (h : o1 = 1) : Calls Try.prog 38 #[.int .i64 1] w (PostI w o1) := by
  subst h; exact from_any 1 w (by decide) (by decide)

set_option maxRecDepth 100000 in
set_option maxHeartbeats 2000000 in
theorem Pow_good (neg : Bool) {B : Nat} {A : Option Addr} {l : List Nat} {n c : Nat} {w : World} (hs : SlU w B A n c l) (hn : n ≤ 67108000) (hB : B ≤ w.heap.size) (k : Nat) (hlg : lng l = false) :
    Calls Try.prog 54 #[.agg #[.bool neg, .slice A n c], .int .i64 (k : Int)] w (PostC w (ival neg l ^ k) (err (tooLong (ival neg l ^ k)))) := by
  have HL := Lib.hid (P1w_long (neg := neg) hs (by omega) hB)
  rw [hlg] at HL
  have d1 : decide ((k : Int) < 0) = false := decide_eq_false (by omega)
  obtain ⟨o1, ho1⟩ : ∃ o1 : Int, o1 = 1 := ⟨_, rfl⟩
  have HF := Lib.hid (fun w1 => from_one (o1 := o1) w1 ho1)
  have HO1 := Lib.hid ho1
  have HSz := Lib.hid (fun w1 (hb : Below w.heap.size w w1) => size_any (hs.below (C := w.heap.size) hb hB) (by omega))
  have hbl : blen (nv W l) < 2 ↔ nv W l < 2 := by
    have := @blen_le_iff (nv W l) 1
    omega
  have hab := ival_natAbs neg l
  clear ho1 hlg
  by_cases h2 : nv W l < 2
  · have hsm : decide ((blen (nv W l) : Int) < 2) = true := decide_eq_true (by have := hbl.2 h2; omega)
    have HT := Lib.hid (pw_small (x := ival neg l) (by omega) k)
    by_cases hk0 : k = 0
    · have HZ := Lib.hid (show o1 = ival neg l ^ k by rw [HO1.out, hk0]; simp)
      have d3 : decide ((0 : Int) < (k : Int)) = false := decide_eq_false (by omega)
      have d4 : decide (0 < k) = false := decide_eq_false (by omega)
      generalize ival neg l ^ k = Z at *
      generalize blen (nv W l) = bl at *
      clear hbl hab h2 hs hn hB hk0
      go_enter Try.func54, Try.ntmps54
      go_wp2_with fail
      refine HL.out.mono ?_
      rintro ex w3 ⟨rfl, hb3⟩
      obtain ⟨h1, h2, h3, h4⟩ := P1w_after hb3
      obtain ⟨a0, a1, _, _⟩ := h1.facts
      have H3 := Lib.hid h3
      clear h3 hb3
      go_wp2_with fail
      refine (HF.out _).mono ?_
      rintro ex w4 ⟨v, rfl, ⟨A1, c1, rfl, ho1⟩, hb4⟩
      have HX1 := Lib.hid (h1.below hb4 (by omega))
      have HX2 := Lib.hid (h2.below hb4 (by omega))
      obtain ⟨a0, a1, _, _⟩ := (HX1.out).facts
      obtain ⟨r0, r1, r2, r3⟩ := (HX2.out).facts
      have HB4 := Lib.hid (H3.out.trans (hb4.mono (B' := w.heap.size) (by omega)))
      have hz4 := hb4.size
      have HOw := Lib.hid ho1
      have hne1 : ∀ g, A1 = some ⟨g, 0, none⟩ → g ≠ w4.heap.size := by
        intro g hg e
        rcases Own.form HOw.out with ⟨h, _⟩ | ⟨g', h, _, h9⟩
        · rw [h] at hg; cases hg
        · rw [h] at hg; injection hg with hg; injection hg with hg; omega
      have hne1 := Lib.hid hne1
      have hL1 : w.heap.size < w4.heap.size := by omega
      have hL2 : w.heap.size + 1 < w4.heap.size := by omega
      have n1 : ¬ (w.heap.size = w4.heap.size) := by omega
      have n2 : ¬ (w.heap.size + 1 = w4.heap.size) := by omega
      have n3 : ¬ (w4.heap.size = w.heap.size) := by omega
      have n4 : ¬ (w4.heap.size = w.heap.size + 1) := by omega
      clear h1 h2 hb4 ho1
      go_wp2_with fail
      refine (HSz.out _ (HB4.out.alloc (by omega) _)).mono ?_
      rintro ex w5 ⟨rfl, rfl⟩
      have HY1 := Lib.hid (HX1.out.alloc (.cells #[.bool (decide (o1 < 0)), .slice A1 (digs W o1.natAbs).length c1] 24))
      have HY2 := Lib.hid (HX2.out.alloc (.cells #[.bool (decide (o1 < 0)), .slice A1 (digs W o1.natAbs).length c1] 24))
      have HY3 := Lib.hid (Bx.new w4 (.bool (decide (o1 < 0))) (.slice A1 (digs W o1.natAbs).length c1))
      have HB5 := Lib.hid (HB4.out.alloc (by omega) (.cells #[.bool (decide (o1 < 0)), .slice A1 (digs W o1.natAbs).length c1] 24))
      have HO5 := Lib.hid (Own.alloc HOw.out (.cells #[.bool (decide (o1 < 0)), .slice A1 (digs W o1.natAbs).length c1] 24))
      have hz5 : (w4.alloc (.cells #[.bool (decide (o1 < 0)), .slice A1 (digs W o1.natAbs).length c1] 24)).heap.size = w4.heap.size + 1 := by simp
      generalize w4.alloc (.cells #[.bool (decide (o1 < 0)), .slice A1 (digs W o1.natAbs).length c1] 24) = w5 at *
      generalize w4.heap.size = G at *
      generalize w3.heap.size = B3 at *
      clear a0 a1 r0 r1 r2 r3 HX1 HX2 HB4 HOw
      obtain ⟨a0, a1, _, _⟩ := HY1.out.facts
      obtain ⟨r0, r1, r2, r3⟩ := HY2.out.facts
      obtain ⟨g0, g1, g2, g3⟩ := HY3.out.facts
      go_wp2
      have hr := ResI.stored (w := w) (g := w.heap.size + 1) (u := .bool (decide (o1 < 0))) (u' := .slice A1 (digs W o1.natAbs).length c1) ⟨A1, c1, rfl, HO5.out⟩ HB5.out (by first | omega | (simp; done) | (simp; omega)) (by first | omega | (simp; done) | (simp; omega))
      exact bodyPost_ret (v := .tuple #[.agg #[.bool (decide (o1 < 0)), .slice A1 (digs W o1.natAbs).length c1], .int .i64 0]) (by simp [results, Try.results54, go_sem, r0, r1]) rfl
        (PostC.ok (by rw [HT.out]; rfl) (by rw [← HZ.out]; exact hr.1) hr.2)
    · have d3 : decide ((0 : Int) < (k : Int)) = true := decide_eq_true (by omega)
      have d4 : decide (0 < k) = true := decide_eq_true (by omega)
      have hun := pow_unit (neg := neg) h2 (show 0 < k by omega)
      have hrem : ((k : Int) % 2 == 1) = decide (k % 2 = 1) := by
        rw [Bool.eq_iff_iff, beq_iff_eq, decide_eq_true_iff]; omega
      have hkI : (0 : Int) ≤ (k : Int) := by omega
      have HI := Lib.hid (fun w1 (hb : Below w.heap.size w w1) => trim_any (hs.below (C := w.heap.size) hb hB))
      have HO := Lib.hid (fun w1 (hb : Below w.heap.size w w1) => own_any ((hs.tr).below (C := w.heap.size) hb hB) (by have := tlen_le l; have := hs.len; omega) (Nat.le_trans hB hb.size))
      have HD := Lib.hid hs.dig.tr
      generalize decide (k % 2 = 1) = od at *
      rw [← ival_tr] at hun
      have HUn := Lib.hid hun
      generalize ival neg l ^ k = Z at *
      generalize blen (nv W l) = bl at *
      generalize tlen l = tl at *
      clear hbl hab h2 hs hn hB hk0 hun
      cases neg
      all_goals
        go_enter Try.func54, Try.ntmps54
        go_wp2_with fail
        refine HL.out.mono ?_
        rintro ex w3 ⟨rfl, hb3⟩
        obtain ⟨h1, h2, h3, h4⟩ := P1w_after hb3
        obtain ⟨a0, a1, _, _⟩ := h1.facts
        have H3 := Lib.hid h3
        clear h3 hb3
        go_wp2_with fail
        refine (HF.out _).mono ?_
        rintro ex w4 ⟨v, rfl, ⟨A1, c1, rfl, ho1⟩, hb4⟩
        have HX1 := Lib.hid (h1.below hb4 (by omega))
        have HX2 := Lib.hid (h2.below hb4 (by omega))
        obtain ⟨a0, a1, _, _⟩ := (HX1.out).facts
        obtain ⟨r0, r1, r2, r3⟩ := (HX2.out).facts
        have HB4 := Lib.hid (H3.out.trans (hb4.mono (B' := w.heap.size) (by omega)))
        have hz4 := hb4.size
        have HOw := Lib.hid ho1
        have hL1 : w.heap.size < w4.heap.size := by omega
        have hL2 : w.heap.size + 1 < w4.heap.size := by omega
        have n1 : ¬ (w.heap.size = w4.heap.size) := by omega
        have n2 : ¬ (w.heap.size + 1 = w4.heap.size) := by omega
        have n3 : ¬ (w4.heap.size = w.heap.size) := by omega
        have n4 : ¬ (w4.heap.size = w.heap.size + 1) := by omega
        clear h1 h2 hb4 ho1
        go_wp2_with fail
        refine (HSz.out _ (HB4.out.alloc (by omega) _)).mono ?_
        rintro ex w5 ⟨rfl, rfl⟩
        have HY1 := Lib.hid (HX1.out.alloc (.cells #[.bool (decide (o1 < 0)), .slice A1 (digs W o1.natAbs).length c1] 24))
        have HY2 := Lib.hid (HX2.out.alloc (.cells #[.bool (decide (o1 < 0)), .slice A1 (digs W o1.natAbs).length c1] 24))
        have HY3 := Lib.hid (Bx.new w4 (.bool (decide (o1 < 0))) (.slice A1 (digs W o1.natAbs).length c1))
        have HB5 := Lib.hid (HB4.out.alloc (by omega) (.cells #[.bool (decide (o1 < 0)), .slice A1 (digs W o1.natAbs).length c1] 24))
        have HO5 := Lib.hid (Own.alloc HOw.out (.cells #[.bool (decide (o1 < 0)), .slice A1 (digs W o1.natAbs).length c1] 24))
        have hz5 : (w4.alloc (.cells #[.bool (decide (o1 < 0)), .slice A1 (digs W o1.natAbs).length c1] 24)).heap.size = w4.heap.size + 1 := by simp
        generalize w4.alloc (.cells #[.bool (decide (o1 < 0)), .slice A1 (digs W o1.natAbs).length c1] 24) = w5 at *
        generalize w4.heap.size = G at *
        generalize w3.heap.size = B3 at *
        clear a0 a1 r0 r1 r2 r3 HX1 HX2 HB4 HOw
        obtain ⟨a0, a1, _, _⟩ := HY1.out.facts
        obtain ⟨r0, r1, r2, r3⟩ := HY2.out.facts
        obtain ⟨g0, g1, g2, g3⟩ := HY3.out.facts
        go_wp2_with fail
        refine (HI.out _ HB5.out).mono ?_
        rintro ex w6 ⟨rfl, rfl⟩
        go_wp2_with fail
        refine (HO.out _ HB5.out).mono ?_
        rintro ex w6 ⟨A2, n2, c2, rfl, ho2, hl2, hb6⟩
        have HB6 := Lib.hid hb6
        have HO2 := Lib.hid (And.intro ho2 hl2)
        clear ho2 hl2 hb6
        go_wp2_with fail
        refine (laid_own _ HO2.out.1 HO2.out.2 HD.out HUn.out).mono ?_
        rintro ex w7 ⟨v, rfl, ⟨A3, c3, rfl, ho3⟩, hb7⟩
        have HB57 := Lib.hid (HB6.out.trans (hb7.mono HB6.out.size))
        have HO3 := Lib.hid ho3
        have hz7 := HB57.out.size
        have HZ2 := Lib.hid (HY2.out.below HB57.out (by omega))
        have HZ3 := Lib.hid (HY3.out.below HB57.out (by omega))
        have HB7 := Lib.hid (HB5.out.trans (HB57.out.mono (B' := w.heap.size) (by omega)))
        clear ho3 hb7 a0 a1 r0 r1 r2 r3 g0 g1 g2 g3
        obtain ⟨r0, r1, r2, r3⟩ := HZ2.out.facts
        obtain ⟨g0, g1, g2, g3⟩ := HZ3.out.facts
        have m1 : ¬ (w.heap.size + 1 = G) := by omega
        have m2 : ¬ (G = w.heap.size + 1) := by omega
        go_wp2
        have hr := ResI.stored (w := w) (g := w.heap.size + 1) (u := .bool (decide (Z < 0))) (u' := .slice A3 (digs W Z.natAbs).length c3) ⟨A3, c3, rfl, Own.farB (Own.farB HO3.out (p := ⟨G, 0, none⟩) (by first | omega | (simp; done) | (simp; omega)) (.bool (decide (Z < 0)))) (p := ⟨G, 1, none⟩) (by first | omega | (simp; done) | (simp; omega)) (.slice A3 (digs W Z.natAbs).length c3)⟩ ((HB7.out.setCell (p := ⟨G, 0, none⟩) (by first | omega | (simp; done) | (simp; omega)) _).setCell (p := ⟨G, 1, none⟩) (by first | omega | (simp; done) | (simp; omega)) _) (by first | omega | (simp; done) | (simp; omega)) (by first | omega | (simp; done) | (simp; omega))
        exact bodyPost_ret (v := .tuple #[.agg #[.bool (decide (Z < 0)), .slice A3 (digs W Z.natAbs).length c3], .int .i64 0]) (by simp [results, Try.results54, go_sem, r0, r1]) rfl
          (PostC.ok (by rw [HT.out]; rfl) hr.1 hr.2)
  · have hsm : decide ((blen (nv W l) : Int) < 2) = false := decide_eq_false (by have := mt hbl.1 h2; omega)
    by_cases hk : 4096 < k
    · have d3 : decide ((4096 : Int) < (k : Int)) = true := decide_eq_true (by omega)
      have d4 : decide (4096 < k) = true := decide_eq_true (by omega)
      have HT := Lib.hid (pw_great (x := ival neg l) (by omega) hk)
      generalize ival neg l ^ k = Z at *
      generalize blen (nv W l) = bl at *
      clear hbl hab h2 hs hn hB
      go_enter Try.func54, Try.ntmps54
      go_wp2_with fail
      refine HL.out.mono ?_
      rintro ex w3 ⟨rfl, hb3⟩
      obtain ⟨h1, h2, h3, h4⟩ := P1w_after hb3
      obtain ⟨a0, a1, _, _⟩ := h1.facts
      have H3 := Lib.hid h3
      clear h3 hb3
      go_wp2_with fail
      refine (HF.out _).mono ?_
      rintro ex w4 ⟨v, rfl, ⟨A1, c1, rfl, ho1⟩, hb4⟩
      have HX1 := Lib.hid (h1.below hb4 (by omega))
      have HX2 := Lib.hid (h2.below hb4 (by omega))
      obtain ⟨a0, a1, _, _⟩ := (HX1.out).facts
      obtain ⟨r0, r1, r2, r3⟩ := (HX2.out).facts
      have HB4 := Lib.hid (H3.out.trans (hb4.mono (B' := w.heap.size) (by omega)))
      have hz4 := hb4.size
      have HOw := Lib.hid ho1
      have hne1 : ∀ g, A1 = some ⟨g, 0, none⟩ → g ≠ w4.heap.size := by
        intro g hg e
        rcases Own.form HOw.out with ⟨h, _⟩ | ⟨g', h, _, h9⟩
        · rw [h] at hg; cases hg
        · rw [h] at hg; injection hg with hg; injection hg with hg; omega
      have hne1 := Lib.hid hne1
      have hL1 : w.heap.size < w4.heap.size := by omega
      have hL2 : w.heap.size + 1 < w4.heap.size := by omega
      have n1 : ¬ (w.heap.size = w4.heap.size) := by omega
      have n2 : ¬ (w.heap.size + 1 = w4.heap.size) := by omega
      have n3 : ¬ (w4.heap.size = w.heap.size) := by omega
      have n4 : ¬ (w4.heap.size = w.heap.size + 1) := by omega
      clear h1 h2 hb4 ho1
      go_wp2_with fail
      refine (HSz.out _ (HB4.out.alloc (by omega) _)).mono ?_
      rintro ex w5 ⟨rfl, rfl⟩
      have HY1 := Lib.hid (HX1.out.alloc (.cells #[.bool (decide (o1 < 0)), .slice A1 (digs W o1.natAbs).length c1] 24))
      have HY2 := Lib.hid (HX2.out.alloc (.cells #[.bool (decide (o1 < 0)), .slice A1 (digs W o1.natAbs).length c1] 24))
      have HY3 := Lib.hid (Bx.new w4 (.bool (decide (o1 < 0))) (.slice A1 (digs W o1.natAbs).length c1))
      have HB5 := Lib.hid (HB4.out.alloc (by omega) (.cells #[.bool (decide (o1 < 0)), .slice A1 (digs W o1.natAbs).length c1] 24))
      have HO5 := Lib.hid (Own.alloc HOw.out (.cells #[.bool (decide (o1 < 0)), .slice A1 (digs W o1.natAbs).length c1] 24))
      have hz5 : (w4.alloc (.cells #[.bool (decide (o1 < 0)), .slice A1 (digs W o1.natAbs).length c1] 24)).heap.size = w4.heap.size + 1 := by simp
      generalize w4.alloc (.cells #[.bool (decide (o1 < 0)), .slice A1 (digs W o1.natAbs).length c1] 24) = w5 at *
      generalize w4.heap.size = G at *
      generalize w3.heap.size = B3 at *
      clear a0 a1 r0 r1 r2 r3 HX1 HX2 HB4 HOw
      obtain ⟨a0, a1, _, _⟩ := HY1.out.facts
      obtain ⟨r0, r1, r2, r3⟩ := HY2.out.facts
      obtain ⟨g0, g1, g2, g3⟩ := HY3.out.facts
      go_wp2
      exact bodyPost_ret (v := .tuple #[zeroV, .int .i64 10]) (by simp [results, Try.results54, go_sem, r0, r1]) rfl
        (PostC.bad (by rw [HT.out]; rfl) (by decide) ((HB5.out.setCell (by first | omega | (simp; done) | (simp; omega)) _).setCell (by first | omega | (simp; done) | (simp; omega)) _))
    · have d3 : decide ((4096 : Int) < (k : Int)) = false := decide_eq_false (by omega)
      have d4 : decide (4096 < k) = false := decide_eq_false (by omega)
      have HMu := Lib.hid (fun w1 (hb : Below w.heap.size w w1) (B2 : Nat) (z : Int) A2 c2 (h : OwnU w1 B2 A2 (digs W z.natAbs).length c2 (u32s (digs W z.natAbs))) (h9 : (digs W z.natAbs).length ≤ 128) => mul_any (Own.sl h (dig_digs (by decide) _) rfl) (hs.below (C := w.heap.size) hb hB) (by omega) (Nat.le_refl _) (Nat.le_trans hB hb.size))
      have HVl := Lib.hid (fun z out (h : nv W out = nv W (digs W (z : Int).natAbs) * nv W l) => ival_digs_mul z neg h)
      have HMo := Lib.hid (fun j (hj : j ≤ k) ht => pw_mono (x := ival neg l) (by omega) hj ht)
      have hk9 : (k : Int) ≤ 4096 := by omega
      have HTl := Lib.hid (show tlen l ≤ 67108000 by have := tlen_le l; have := hs.len; omega)
      generalize ival neg l = X at *
      clear hab hbl h2
      generalize blen (nv W l) = bl at *
      go_enter Try.func54, Try.ntmps54
      go_wp2_with fail
      refine HL.out.mono ?_
      rintro ex w3 ⟨rfl, hb3⟩
      obtain ⟨h1, h2, h3, h4⟩ := P1w_after hb3
      obtain ⟨a0, a1, _, _⟩ := h1.facts
      have H3 := Lib.hid h3
      clear h3 hb3
      go_wp2_with fail
      refine (HF.out _).mono ?_
      rintro ex w4 ⟨v, rfl, ⟨A1, c1, rfl, ho1⟩, hb4⟩
      have HX1 := Lib.hid (h1.below hb4 (by omega))
      have HX2 := Lib.hid (h2.below hb4 (by omega))
      obtain ⟨a0, a1, _, _⟩ := (HX1.out).facts
      obtain ⟨r0, r1, r2, r3⟩ := (HX2.out).facts
      have HB4 := Lib.hid (H3.out.trans (hb4.mono (B' := w.heap.size) (by omega)))
      have hz4 := hb4.size
      have HOw := Lib.hid ho1
      have hne1 : ∀ g, A1 = some ⟨g, 0, none⟩ → g ≠ w4.heap.size := by
        intro g hg e
        rcases Own.form HOw.out with ⟨h, _⟩ | ⟨g', h, _, h9⟩
        · rw [h] at hg; cases hg
        · rw [h] at hg; injection hg with hg; injection hg with hg; omega
      have hne1 := Lib.hid hne1
      have hL1 : w.heap.size < w4.heap.size := by omega
      have hL2 : w.heap.size + 1 < w4.heap.size := by omega
      have n1 : ¬ (w.heap.size = w4.heap.size) := by omega
      have n2 : ¬ (w.heap.size + 1 = w4.heap.size) := by omega
      have n3 : ¬ (w4.heap.size = w.heap.size) := by omega
      have n4 : ¬ (w4.heap.size = w.heap.size + 1) := by omega
      clear h1 h2 hb4 ho1
      go_wp2_with fail
      refine (HSz.out _ (HB4.out.alloc (by omega) _)).mono ?_
      rintro ex w5 ⟨rfl, rfl⟩
      have HY1 := Lib.hid (HX1.out.alloc (.cells #[.bool (decide (o1 < 0)), .slice A1 (digs W o1.natAbs).length c1] 24))
      have HY2 := Lib.hid (HX2.out.alloc (.cells #[.bool (decide (o1 < 0)), .slice A1 (digs W o1.natAbs).length c1] 24))
      have HY3 := Lib.hid (Bx.new w4 (.bool (decide (o1 < 0))) (.slice A1 (digs W o1.natAbs).length c1))
      have HB5 := Lib.hid (HB4.out.alloc (by omega) (.cells #[.bool (decide (o1 < 0)), .slice A1 (digs W o1.natAbs).length c1] 24))
      have HO5 := Lib.hid (Own.alloc HOw.out (.cells #[.bool (decide (o1 < 0)), .slice A1 (digs W o1.natAbs).length c1] 24))
      have hz5 : (w4.alloc (.cells #[.bool (decide (o1 < 0)), .slice A1 (digs W o1.natAbs).length c1] 24)).heap.size = w4.heap.size + 1 := by simp
      generalize w4.alloc (.cells #[.bool (decide (o1 < 0)), .slice A1 (digs W o1.natAbs).length c1] 24) = w5 at *
      generalize w4.heap.size = G at *
      generalize w3.heap.size = B3 at *
      clear a0 a1 r0 r1 r2 r3 HX1 HX2 HB4 HOw
      obtain ⟨a0, a1, _, _⟩ := HY1.out.facts
      obtain ⟨r0, r1, r2, r3⟩ := HY2.out.facts
      obtain ⟨g0, g1, g2, g3⟩ := HY3.out.facts
      go_wp2_with fail
      have HRS := Lib.hid (show PwRel w5 B3 G o1 w5 from ⟨A1, c1, HY3.out, HO5.out, hne1.out, Below.refl _ _⟩)
      clear a0 a1 r0 r1 r2 r3 g0 g1 g2 g3
      go_loopw [38] (fun iv wr => ∃ j : Nat, j ≤ k ∧ iv = .int .i64 (j : Int) ∧ Hid (tooLong (X ^ j) = false) ∧ PwRel w5 B3 G (X ^ j) wr) (fun iv _ => k - (intOf iv).toNat)
      case atStart => exact ⟨0, Nat.zero_le _, rfl, Lib.hid (by rw [Int.pow_zero]; have := pw_small (x := 1) (by decide) 0; rwa [Int.pow_zero] at this), by rw [Int.pow_zero, ← HO1.out]; exact HRS.out⟩
      case round =>
        obtain ⟨j, hj, rfl, hnl, A2, c2, hbx, ho, hne, hbw⟩ := hrel
        have hzw := hbw.size
        obtain ⟨g0, g1, g2, g3⟩ := hbx.facts
        obtain ⟨a0, a1, _, _⟩ := (HY1.out.below hbw (by omega)).facts
        obtain ⟨r0, r1, r2, r3⟩ := (HY2.out.below hbw (by omega)).facts
        have HBw := Lib.hid hbw
        have HOw := Lib.hid (And.intro ho hne)
        have HBx := Lib.hid hbx
        by_cases hjk : j < k
        · have h128 := not_too_len hnl.out
          have HXs := Lib.hid (Int.pow_succ X j)
          generalize X ^ j = Z at *
          have hj0 : (0 : Int) ≤ (j : Int) := by omega
          clear hbw ho hne hbx
          go_wp2_with fail
          refine wp_region_wait (fun w' => (w'.cell? ⟨G, 0, none⟩ = some (.bool (decide (Z < 0))) ∧ w'.cell? ⟨G, 1, none⟩ = some (.slice A2 (digs W Z.natAbs).length c2)) ∧ (w'.cell? ⟨w.heap.size, 0, none⟩ = some (.bool neg) ∧ w'.cell? ⟨w.heap.size, 1, none⟩ = some (.slice A n c))) 11 (by kernel_rfl) ?_
          refine wpAnyW_take 11 (i := 0) (v := .pointer (some ⟨G, 0, none⟩)) rfl (by kernel_rfl) (by kernel_rfl) (by kernel_rfl) (by kernel_rfl) (fun _ _ _ h => h) (Or.inl ⟨by rfl, fun w5 hSw => by go_simp⟩) ⟨⟨g0, g1⟩, a0, a1⟩ ?_
          refine wpAnyW_take 11 (i := 1) (v := .bool (decide (Z < 0))) rfl (by kernel_rfl) (by kernel_rfl) (by kernel_rfl) (by kernel_rfl) (fun _ _ _ h => h) (Or.inl ⟨by rfl, fun w5 hSw => by go_simp⟩) ⟨⟨g0, g1⟩, a0, a1⟩ ?_
          refine wpAnyW_take 11 (i := 2) (v := .pointer (some ⟨w.heap.size, 0, none⟩)) rfl (by kernel_rfl) (by kernel_rfl) (by kernel_rfl) (by kernel_rfl) (fun _ _ _ h => h) (Or.inl ⟨by rfl, fun w5 hSw => by go_simp⟩) ⟨⟨g0, g1⟩, a0, a1⟩ ?_
          refine wpAnyW_take 11 (i := 3) (v := .bool neg) rfl (by kernel_rfl) (by kernel_rfl) (by kernel_rfl) (by kernel_rfl) (fun _ _ _ h => h) (Or.inl ⟨by rfl, fun w5 hSw => by go_simp⟩) ⟨⟨g0, g1⟩, a0, a1⟩ ?_
          refine wpAnyW_take 11 (i := 4) (v := .bool (!(decide (Z < 0) == neg))) rfl (by kernel_rfl) (by kernel_rfl) (by kernel_rfl) (by kernel_rfl) (fun _ _ _ h => h) (Or.inl ⟨by rfl, fun w5 hSw => by go_simp⟩) ⟨⟨g0, g1⟩, a0, a1⟩ ?_
          refine wpAnyW_take 11 (i := 5) (v := .pointer (some ⟨G, 1, none⟩)) rfl (by kernel_rfl) (by kernel_rfl) (by kernel_rfl) (by kernel_rfl) (fun _ _ _ h => h) (Or.inl ⟨by rfl, fun w5 hSw => by go_simp⟩) ⟨⟨g0, g1⟩, a0, a1⟩ ?_
          refine wpAnyW_take 11 (i := 6) (v := .slice A2 (digs W Z.natAbs).length c2) rfl (by kernel_rfl) (by kernel_rfl) (by kernel_rfl) (by kernel_rfl) (fun _ _ _ h => h) (Or.inl ⟨by rfl, fun w5 hSw => by go_simp⟩) ⟨⟨g0, g1⟩, a0, a1⟩ ?_
          refine wpAnyW_take 11 (i := 7) (v := .pointer (some ⟨w.heap.size, 1, none⟩)) rfl (by kernel_rfl) (by kernel_rfl) (by kernel_rfl) (by kernel_rfl) (fun _ _ _ h => h) (Or.inl ⟨by rfl, fun w5 hSw => by go_simp⟩) ⟨⟨g0, g1⟩, a0, a1⟩ ?_
          refine wpAnyW_take 11 (i := 8) (v := .slice A n c) rfl (by kernel_rfl) (by kernel_rfl) (by kernel_rfl) (by kernel_rfl) (fun _ _ _ h => h) (Or.inl ⟨by rfl, fun w5 hSw => by go_simp⟩) ⟨⟨g0, g1⟩, a0, a1⟩ ?_
          refine wpAnyW_one (i := 9) (by kernel_rfl) rfl (fun K hK => ?_)
          go_simp
          (with_reducible refine (HMu.out _ ?_ _ Z _ _ (Own.drew HOw.out.1) h128).mono ?_)
          · exact (HB5.out.trans (HBw.out.mono (B' := w.heap.size) (by omega))).drew
          rintro e w6 ⟨out, A4, n4, c4, rfl, ho4, hl4, hd4, hv4, hbd, hb6⟩
          have hq6 : Below wr.heap.size wr w6 := ((Below.refl wr.heap.size wr).drew).trans hb6
          have hz6 := hq6.size
          have f6 := (HBx.out.below hq6 (by omega)).facts
          have e6 := ((HY1.out.below HBw.out (by omega)).below hq6 (by omega)).facts
          refine hK.out _ _ (fun _ => ⟨⟨f6.1, f6.2.1⟩, e6.1, e6.2.1⟩) ?_
          refine wpAnyW_one (i := 10) (by kernel_rfl) rfl (fun K hK => ?_)
          go_simp
          (with_reducible refine (laid_own (!(decide (Z < 0) == neg)) ho4 hl4 hd4 (HVl.out Z out hv4)).mono ?_)
          rintro e w7 ⟨v, rfl, ⟨A5, c5, rfl, ho5⟩, hb7⟩
          have hq7 : Below wr.heap.size wr w7 := hq6.trans (hb7.mono hz6)
          have hz7 := hq7.size
          have f7 := (HBx.out.below hq7 (by omega)).facts
          have e7 := ((HY1.out.below HBw.out (by omega)).below hq7 (by omega)).facts
          refine hK.out _ _ (fun _ => ⟨⟨f7.1, f7.2.1⟩, e7.1, e7.2.1⟩) ?_
          refine wpAnyW_one (i := 11) (by kernel_rfl) rfl (fun K hK => ?_)
          obtain ⟨f70, f71, f72, f73⟩ := f7
          clear f6 e6 e7
          go_simp
          refine hK.out _ _ (fun h => absurd h (by simp)) ?_
          refine wpAnyW_done (by kernel_rfl) ?_ _
          have hlen : (digs W (Z * X).natAbs).length ≤ 67108864 := by
            have h1 := nv_lt hd4
            have h2 : (Z * X).natAbs = nv W out := by rw [← HVl.out Z out hv4, ival_natAbs]
            rw [← h2] at h1
            have h3 := digs_length_le (by decide) h1
            have h4 := HTl.out
            have h5 := tlen_le (digs W Z.natAbs)
            omega
          go_wp2_with fail
          have BG := (HBx.out.below hq7 (by omega)).set (.bool (decide (Z * X < 0))) (.slice A5 (digs W (Z * X).natAbs).length c5)
          have BY1 := (((HY1.out.below HBw.out (by omega)).below hq7 (by omega)).far (p := ⟨G, 0, none⟩) (by first | omega | (simp; done) | (simp; omega)) (.bool (decide (Z * X < 0)))).far (p := ⟨G, 1, none⟩) (by first | omega | (simp; done) | (simp; omega)) (.slice A5 (digs W (Z * X).natAbs).length c5)
          have BY2 := (((HY2.out.below HBw.out (by omega)).below hq7 (by omega)).far (p := ⟨G, 0, none⟩) (by first | omega | (simp; done) | (simp; omega)) (.bool (decide (Z * X < 0)))).far (p := ⟨G, 1, none⟩) (by first | omega | (simp; done) | (simp; omega)) (.slice A5 (digs W (Z * X).natAbs).length c5)
          have hG4 : G < wr.drew.heap.size := by have := HBx.out.lt; exact this
          have OA := Own.farB (Own.farB ho5 (p := ⟨G, 0, none⟩) hG4 (.bool (decide (Z * X < 0)))) (p := ⟨G, 1, none⟩) hG4 (.slice A5 (digs W (Z * X).natAbs).length c5)
          have BT := ((HBw.out.trans (hq7.mono (B' := G) (by omega))).setCell (p := ⟨G, 0, none⟩) (Nat.le_refl _) (.bool (decide (Z * X < 0)))).setCell (p := ⟨G, 1, none⟩) (Nat.le_refl _) (.slice A5 (digs W (Z * X).natAbs).length c5)
          have hgT : (((w7.setCell ⟨G, 0, none⟩ (.bool (decide (Z * X < 0)))).setCell ⟨G, 1, none⟩ (.slice A5 (digs W (Z * X).natAbs).length c5))).heap.size = w7.heap.size := by simp
          generalize ((w7.setCell ⟨G, 0, none⟩ (.bool (decide (Z * X < 0)))).setCell ⟨G, 1, none⟩ (.slice A5 (digs W (Z * X).natAbs).length c5)) = wT at *
          generalize hZX : Z * X = ZX at *
          have HZX := Lib.hid hZX
          clear hZX
          refine (long_at OA hlen hgT).mono ?_
          rintro ex wU ⟨rfl, hbU⟩
          have hbU2 := (Below.refl wT.heap.size wT).alloc (Nat.le_refl _) (.cells #[.bool (decide (ZX < 0)), .slice A5 (digs W ZX.natAbs).length c5] 24) |>.trans (hbU.mono (by simp))
          have hzU := hbU2.size
          have hzT := BT.size
          have HUG := Lib.hid (BG.below hbU2 BG.lt)
          have HU2 := Lib.hid (BY2.below hbU2 BY2.lt)
          have HUO := Lib.hid (Own.below OA hbU2 (Nat.le_refl _))
          have HUB := Lib.hid (BT.trans (hbU2.mono (B' := G) (by omega)))
          have hne2 : ∀ g, A5 = some ⟨g, 0, none⟩ → g ≠ G := by
            intro g hg e
            rcases Own.form OA with ⟨h, _⟩ | ⟨g', h, h9, _⟩
            · rw [h] at hg; cases hg
            · rw [h] at hg; injection hg with hg; injection hg with hg; omega
          have HN5 := Lib.hid hne2
          have hB34 : B3 ≤ wr.drew.heap.size := by show B3 ≤ wr.heap.size; omega
          have HUO3 := Lib.hid (Own.mono HUO.out hB34)
          obtain ⟨r0, r1, r2, r3⟩ := HU2.out.facts
          clear hbU hbU2 BG BY1 BY2 OA BT hgT hlen hne2 ho4 ho5 hb6 hb7 hq6 hq7 f70 f71 f72 f73 g0 g1 g2 g3 a0 a1 hd4 hv4 hl4
          cases hT : tooLong ZX
          · have HT := Lib.hid hT
            clear hT
            go_wp2_with fail
            go_roundw
            case rel => exact ⟨j + 1, by omega, by go_num, Lib.hid (by rw [HXs.out]; exact HT.out), by rw [HXs.out]; exact ⟨A5, c5, HUG.out, HUO3.out, HN5.out, HUB.out⟩⟩
            case measure => simp [intOf]; omega
          · have HT := Lib.hid (HMo.out (j + 1) (by omega) (by rw [HXs.out]; exact hT))
            clear hT
            go_wp2_with fail
            exact bodyPost_ret (v := .tuple #[zeroV, .int .i64 10]) (by simp [results, Try.results54, go_sem, r0, r1]) rfl
              (PostC.bad (by rw [HT.out]; rfl) (by decide) (((HB5.out.trans (HUB.out.mono (B' := w.heap.size) (by omega))).setCell (by first | omega | (simp; done) | (simp; omega)) _).setCell (by first | omega | (simp; done) | (simp; omega)) _))
        · obtain rfl : j = k := by omega
          have HT := Lib.hid hnl.out
          generalize X ^ j = Z at *
          clear hbw ho hne hbx hnl
          go_wp2
          have hr := ResI.stored (w := w) (g := w.heap.size + 1) (u := .bool (decide (Z < 0))) (u' := .slice A2 (digs W Z.natAbs).length c2) ⟨A2, c2, rfl, HOw.out.1⟩ (HB5.out.trans (HBw.out.mono (B' := w.heap.size) (by omega))) (by first | omega | (simp; done) | (simp; omega)) (by first | omega | (simp; done) | (simp; omega))
          exact bodyPost_ret (v := .tuple #[.agg #[.bool (decide (Z < 0)), .slice A2 (digs W Z.natAbs).length c2], .int .i64 0]) (by simp [results, Try.results54, go_sem, r0, r1]) rfl
            (PostC.ok (by rw [HT.out]; rfl) hr.1 hr.2)
theorem Pow_any (neg : Bool) {B : Nat} {A : Option Addr} {l : List Nat} {n c : Nat} {w : World} (hs : SlU w B A n c l) (hn : n ≤ 67108000) (hB : B ≤ w.heap.size) (k : Int) :
    Calls Try.prog 54 #[.agg #[.bool neg, .slice A n c], .int .i64 k] w (PostC w (ival neg l ^ k.toNat) (pwCode (lng l) (ival neg l) k)) := by
  by_cases hbad : lng l = true ∨ k < 0
  · exact Pow_bad neg hs (by omega) hB k hbad _
  · have hl : lng l = false := by
      cases h : lng l with
      | false => rfl
      | true => exact absurd (.inl h) hbad
    obtain ⟨m, rfl⟩ := Int.eq_ofNat_of_zero_le (show 0 ≤ k by omega)
    rw [hl, pwCode, if_neg (by simp), if_neg (by omega), Int.toNat_natCast]
    exact Pow_good neg hs hn hB m hl
end Go.Proofs.Ytggdmhkdmkldoaa
