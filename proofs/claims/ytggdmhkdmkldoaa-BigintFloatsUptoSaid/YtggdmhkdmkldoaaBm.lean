import Derived.Test.YtggdmhkdmkldoaaBl
namespace Go.Proofs.Ytggdmhkdmkldoaa
open Go.RowKit Hb

theorem kept_ok {w1 : World} {B : Nat} {A2 : Option Addr} {c2 : Nat} {z : Int} (hT : tooLong z = false) (ho : OwnU w1 B A2 (digs W z.natAbs).length c2 (u32s (digs W z.natAbs))) (hl : (digs W z.natAbs).length ≤ 67108864) :
    Calls Try.prog 83 #[.agg #[.bool (decide (z < 0)), .slice A2 (digs W z.natAbs).length c2]] w1
      (KeptPost (.agg #[.bool (decide (z < 0)), .slice A2 (digs W z.natAbs).length c2]) 0 w1) := by
  have := kept_res ho hl
  simpa only [hT, err, Bool.false_eq_true, ↓reduceIte] using this
theorem kept_bad {w1 : World} {B : Nat} {A2 : Option Addr} {c2 : Nat} {z : Int} (hT : tooLong z = true) (ho : OwnU w1 B A2 (digs W z.natAbs).length c2 (u32s (digs W z.natAbs))) (hl : (digs W z.natAbs).length ≤ 67108864) :
    Calls Try.prog 83 #[.agg #[.bool (decide (z < 0)), .slice A2 (digs W z.natAbs).length c2]] w1 (KeptPost zeroV 10 w1) := by
  have := kept_res ho hl
  simpa only [hT, err, ↓reduceIte] using this
theorem ival_digs (z : Int) : ival (decide (z < 0)) (digs W z.natAbs) = z := by
  unfold ival
  rw [nv_digs (by decide)]
  by_cases h : z < 0
  · rw [if_pos (by simpa using h)]; omega
  · rw [if_neg (by simpa using h)]; omega
theorem ival_not (neg : Bool) (l : List Nat) : ival (!neg) l = - ival neg l := by cases neg <;> simp [ival]
/-- a sum with an integer of the call's own -/
theorem sum_own (na : Bool) {B B' : Nat} {A A' : Option Addr} {l : List Nat} {n c c' : Nat} {y : Int} {w : World} (hs : SlU w B A n c l) (hB : B ≤ w.heap.size) (hn : n ≤ 67108864)
    (ho : OwnU w B' A' (digs W y.natAbs).length c' (u32s (digs W y.natAbs))) (hl : (digs W y.natAbs).length ≤ 67108864) {Z : Int} (hZ : ival na l + y = Z) :
    Calls Try.prog 72 #[.agg #[.bool na, .slice A n c], .agg #[.bool (decide (y < 0)), .slice A' (digs W y.natAbs).length c']] w (PostI w Z) := by
  have := sum_any na (decide (y < 0)) hs (ho.sl (dig_digs (by decide) _) rfl) hn hl hB (Nat.le_refl _)
  rw [ival_digs, hZ] at this
  exact this

attribute [local go_sem ↓] Go.wp_at_zero Go.wp_at_succ
set_option maxHeartbeats 1000000 in
theorem Sub_any (na nb : Bool) {B B' : Nat} {A A' : Option Addr} {l m : List Nat} {n c n' c' : Nat} {w : World} (hs : SlU w B A n c l) (ht : SlU w B' A' n' c' m) (hn : n ≤ 67108863) (hn' : n' ≤ 67108863) (hB : B ≤ w.heap.size) (hB' : B' ≤ w.heap.size) :
    Calls Try.prog 50 #[.agg #[.bool na, .slice A n c], .agg #[.bool nb, .slice A' n' c']] w (PostC w (ival na l - ival nb m) (err (lng l || lng m || tooLong (ival na l - ival nb m)))) := by
  have hl1 := hs.len
  have hl2 := ht.len
  have HL := Lib.hid (W2_long (na := na) (nb := nb) hs ht (by omega) (by omega) hB hB')
  have HW := Lib.hid (W2_below w na nb A A' n c n' c')
  have HK := Lib.hid (fun C w2 (hb : Below C (W2 w na nb A A' n c n' c') w2) hC => W2_cells hb hC)
  have HE := Lib.hid (fun w2 (hb : Below (w.heap.size + 1 + 1) (W2 w na nb A A' n c n' c') w2) => W2_held hb)
  have HN := Lib.hid (show (digs W (ival na l - ival nb m).natAbs).length ≤ 67108864 from Nat.le_trans (by
    have := digs_add_len (k := max n n') (ival_lt (neg := na) hs.dig (by omega)) (ival_lt (neg := !nb) ht.dig (by omega))
    rwa [ival_not] at this) (show max n n' + 1 ≤ 67108864 by omega))
  have HM := Lib.hid (show (digs W (ival (!nb) m).natAbs).length ≤ 67108864 from Nat.le_trans (digs_length_le (by decide) (ival_lt (neg := !nb) (k := n') ht.dig (by omega))) (by omega))
  have HNg := Lib.hid (fun w1 (hb : Below w.heap.size w w1) => neg_any nb (ht.below (C := w.heap.size) hb hB') (by omega) (Nat.le_trans hB' hb.size))
  have HS := Lib.hid (fun w1 (hb : Below w.heap.size w w1) (B2 : Nat) (A2 : Option Addr) (c2 : Nat) (ho : OwnU w1 B2 A2 (digs W (ival (!nb) m).natAbs).length c2 (u32s (digs W (ival (!nb) m).natAbs))) =>
    sum_own na (hs.below (C := w.heap.size) hb hB) (Nat.le_trans hB hb.size) (by omega) ho HM.out (Z := ival na l - ival nb m) (by rw [ival_not]; omega))
  clear hs ht hn hn' hB hB' hl1 hl2
  generalize ival na l - ival nb m = Z at *
  generalize ival (!nb) m = Y at *
  cases hb : (lng l || lng m)
  · rw [hb] at HL
    clear hb
    cases hT : tooLong Z
    all_goals
      first | have HQ := Lib.hid (fun w1 B2 A2 c2 (ho : OwnU w1 B2 A2 (digs W Z.natAbs).length c2 (u32s (digs W Z.natAbs))) => kept_ok hT ho HN.out) | have HQ := Lib.hid (fun w1 B2 A2 c2 (ho : OwnU w1 B2 A2 (digs W Z.natAbs).length c2 (u32s (digs W Z.natAbs))) => kept_bad hT ho HN.out)
      have HT := Lib.hid hT
      clear hT
      go_enter Try.func50, Try.ntmps50
      go_wp2_with fail
      refine HL.out.mono ?_
      rintro ex w3 ⟨rfl, hb3⟩
      obtain ⟨⟨q0, q1⟩, ⟨q2, q3⟩, r0, r1, r2, r3⟩ := HK.out _ _ hb3 (by first | omega | (simp; done) | (simp; omega))
      have HB3 := Lib.hid (HW.out.trans (hb3.mono (B' := w.heap.size) (by first | omega | (simp; done) | (simp; omega))))
      have H3 := Lib.hid hb3
      have K3 := Lib.hid (hb3.mono (B' := w.heap.size + 1 + 1) (by first | omega | (simp; done) | (simp; omega)))
      have hz3 := hb3.size
      simp at hz3
      clear hb3
      go_wp2_with fail
      clear r0 r1 r2 r3
      go_region_held3 (fun w' => (w'.cell? ⟨w.heap.size, 0, none⟩ = some (.bool na) ∧ w'.cell? ⟨w.heap.size, 1, none⟩ = some (.slice A n c)) ∧ (w'.cell? ⟨w.heap.size + 1, 0, none⟩ = some (.bool nb) ∧ w'.cell? ⟨w.heap.size + 1, 1, none⟩ = some (.slice A' n' c')))
        (first
          | (go_keep; done)
          | exact HE.out _ ((k6.setCell (by first | omega | (simp; done) | (simp; omega)) _).setCell (by first | omega | (simp; done) | (simp; omega)) _)
          | exact HE.out _ k6
          | exact HE.out _ k5
          | exact HE.out _ k4)
        (first
          | (go_at_call 36; (with_reducible refine (HNg.out _ ?_).mono ?_); exact HB3.out.drew; rintro e w4 ⟨v, rfl, ⟨A2, c2, rfl, ho2⟩, hb4⟩; have hz4 := hb4.size; simp at hz4; have k4 := K3.out.drew.trans (hb4.mono (B' := w.heap.size + 1 + 1) (by first | omega | (simp; done) | (simp; omega))))
          | (go_at_call 72; (with_reducible refine (HS.out _ ?_ _ _ _ ho2).mono ?_); exact HB3.out.drew.trans (hb4.mono (by first | omega | (simp; done) | (simp; omega))); rintro e w5 ⟨v, rfl, ⟨A3, c3, rfl, ho3⟩, hb5⟩; have hz5 := hb5.size; have k5 := k4.trans (hb5.mono (B' := w.heap.size + 1 + 1) (by first | omega | (simp; done) | (simp; omega))))
          | (go_at_call 83; (with_reducible refine (HQ.out _ _ _ _ ho3).mono ?_); rintro e w6 ⟨rfl, hb6⟩; have hz6 := hb6.size; have k6 := k5.trans (hb6.mono (B' := w.heap.size + 1 + 1) (by first | omega | (simp; done) | (simp; omega))); obtain ⟨r0, r1, r2, r3⟩ := (HK.out _ _ (H3.out.drew.trans ((hb4.trans ((hb5.mono hb4.size).trans (hb6.mono (Nat.le_trans hb4.size hb5.size)))).mono (by first | omega | (simp; done) | (simp; omega)))) (by first | omega | (simp; done) | (simp; omega))).2.2))
      have HB6 := HB3.out.drew.trans ((hb4.trans ((hb5.mono hb4.size).trans (hb6.mono (Nat.le_trans hb4.size hb5.size)))).mono (B' := w.heap.size) (by first | omega | (simp; done) | (simp; omega)))
      have ho6 := ho3.below hb6 (Nat.le_refl _)
      go_wp2
    · have hr := ResI.stored (w := w) (g := w.heap.size + 1 + 1) (u := .bool (decide (Z < 0))) (u' := .slice A3 (digs W Z.natAbs).length c3) ⟨A3, c3, rfl, ho6⟩ HB6 (by first | omega | (simp; done) | (simp; omega)) (by first | omega | (simp; done) | (simp; omega))
      exact bodyPost_ret (v := .tuple #[.agg #[.bool (decide (Z < 0)), .slice A3 (digs W Z.natAbs).length c3], .int .i64 0]) (by simp [results, Try.results50, go_sem, r0, r1]) rfl
        (PostC.ok (by simp [err]) hr.1 hr.2)
    · exact bodyPost_ret (v := .tuple #[zeroV, .int .i64 10]) (by simp [results, Try.results50, go_sem, r0, r1]) rfl
        (PostC.bad (by simp [err]) (by decide) ((HB6.setCell (by first | omega | (simp; done) | (simp; omega)) _).setCell (by first | omega | (simp; done) | (simp; omega)) _))
  · rw [hb] at HL
    clear hb
    go_enter Try.func50, Try.ntmps50
    go_wp2_with fail
    refine HL.out.mono ?_
    rintro ex w3 ⟨rfl, hb3⟩
    obtain ⟨⟨q0, q1⟩, ⟨q2, q3⟩, r0, r1, r2, r3⟩ := HK.out _ _ hb3 (by simp)
    have HB3 := Lib.hid (HW.out.trans (hb3.mono (B' := w.heap.size) (by first | omega | (simp; done) | (simp; omega))))
    clear hb3
    go_wp2_with fail
    exact bodyPost_ret (v := .tuple #[zeroV, .int .i64 10]) (by simp [results, Try.results50, go_sem, r0, r1]) rfl
      (PostC.bad (by simp [err]) (by decide) ((HB3.out.setCell (by first | omega | (simp; done) | (simp; omega)) _).setCell (by first | omega | (simp; done) | (simp; omega)) _))
end Go.Proofs.Ytggdmhkdmkldoaa
