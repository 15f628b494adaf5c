import Derived.Test.YtggdmhkdmkldoaaBn
namespace Go.Proofs.Ytggdmhkdmkldoaa
open Go.RowKit Hb

theorem ival_mul (na nb : Bool) {l m out : List Nat} (h : nv W out = nv W l * nv W m) : ival (!(na == nb)) out = ival na l * ival nb m := by
  cases na <;> cases nb <;> simp [ival, h, Int.neg_mul, Int.mul_neg]
theorem ival_natAbs_mul (na nb : Bool) (l m : List Nat) : (ival na l * ival nb m).natAbs = nv W l * nv W m := by
  rw [Int.natAbs_mul, ival_natAbs, ival_natAbs]
theorem mul_len {l m : List Nat} (hl : Dig W l) (hm : Dig W m) {n n' : Nat} (h1 : l.length = n) (h2 : m.length = n') (na nb : Bool) : (digs W (ival na l * ival nb m).natAbs).length ≤ n + n' := by
  refine digs_length_le (by decide) ?_
  rw [ival_natAbs_mul, Nat.pow_add]
  have a := nv_lt hl
  have b := nv_lt hm
  rw [h1] at a
  rw [h2] at b
  rcases Nat.eq_zero_or_pos (nv W m) with h | h
  · rw [h, Nat.mul_zero]; exact Nat.mul_pos (Nat.pow_pos (by decide)) (Nat.pow_pos (by decide))
  · exact Nat.lt_of_lt_of_le (Nat.mul_lt_mul_of_pos_right a h) (Nat.mul_le_mul_left _ (Nat.le_of_lt b))

attribute [local go_sem ↓] Go.wp_at_zero Go.wp_at_succ
set_option maxHeartbeats 1000000 in
theorem Mul_any (na nb : Bool) {B B' : Nat} {A A' : Option Addr} {l m : List Nat} {n c n' c' : Nat} {w : World} (hs : SlU w B A n c l) (ht : SlU w B' A' n' c' m) (hn : n + n' ≤ 67108864) (hB : B ≤ w.heap.size) (hB' : B' ≤ w.heap.size) :
    Calls Try.prog 46 #[.agg #[.bool na, .slice A n c], .agg #[.bool nb, .slice A' n' c']] w (PostC w (ival na l * ival nb m) (err (lng l || lng m || tooLong (ival na l * ival nb m)))) := by
  have hl1 := hs.len
  have hl2 := ht.len
  have HL := Lib.hid (W2_long (na := na) (nb := nb) hs ht (by omega) (by omega) hB hB')
  have HW := Lib.hid (W2_below w na nb A A' n c n' c')
  have HK := Lib.hid (fun C w2 (hb : Below C (W2 w na nb A A' n c n' c') w2) hC => W2_cells hb hC)
  have HE := Lib.hid (fun w2 (hb : Below (w.heap.size + 1 + 1) (W2 w na nb A A' n c n' c') w2) => W2_held hb)
  have HN := Lib.hid (show (digs W (ival na l * ival nb m).natAbs).length ≤ 67108864 from Nat.le_trans (mul_len hs.dig ht.dig hl1 hl2 na nb) (by omega))
  have HS := Lib.hid (fun w1 (hb : Below w.heap.size w w1) => mul_any (hs.below (C := w.heap.size) hb hB) (ht.below (C := w.heap.size) hb hB') (by omega) (Nat.le_trans hB hb.size) (Nat.le_trans hB' hb.size))
  have HV := Lib.hid (fun out (h : nv W out = nv W l * nv W m) => ival_mul na nb h)
  clear hs ht hn hB hB' hl1 hl2
  generalize ival na l * ival nb m = Z at *
  cases hb : (lng l || lng m)
  · rw [hb] at HL
    clear hb
    cases hT : tooLong Z
    all_goals
      first | have HQ := Lib.hid (fun w1 B2 A2 c2 (ho : OwnU w1 B2 A2 (digs W Z.natAbs).length c2 (u32s (digs W Z.natAbs))) => kept_ok hT ho HN.out) | have HQ := Lib.hid (fun w1 B2 A2 c2 (ho : OwnU w1 B2 A2 (digs W Z.natAbs).length c2 (u32s (digs W Z.natAbs))) => kept_bad hT ho HN.out)
      have HT := Lib.hid hT
      clear hT
      go_enter Try.func46, Try.ntmps46
      go_wp2_with fail
      refine HL.out.mono ?_
      rintro ex w3 ⟨rfl, hb3⟩
      obtain ⟨⟨q0, q1⟩, ⟨q2, q3⟩, r0, r1, r2, r3⟩ := HK.out _ _ hb3 (by first | omega | (simp; done) | (simp; omega))
      have HB3 := Lib.hid (HW.out.trans (hb3.mono (B' := w.heap.size) (by first | omega | (simp; done) | (simp; omega))))
      have H3 := Lib.hid hb3
      have K3 := Lib.hid (hb3.mono (B' := w.heap.size + 1 + 1) (by first | omega | (simp; done) | (simp; omega)))
      have hz3 := hb3.size
      simp at hz3
      clear hb3
      go_wp2_with fail
      clear r0 r1 r2 r3
      go_region_held3 (fun w' => (w'.cell? ⟨w.heap.size, 0, none⟩ = some (.bool na) ∧ w'.cell? ⟨w.heap.size, 1, none⟩ = some (.slice A n c)) ∧ (w'.cell? ⟨w.heap.size + 1, 0, none⟩ = some (.bool nb) ∧ w'.cell? ⟨w.heap.size + 1, 1, none⟩ = some (.slice A' n' c')))
        (first
          | (go_keep; done)
          | exact HE.out _ ((k6.setCell (by first | omega | (simp; done) | (simp; omega)) _).setCell (by first | omega | (simp; done) | (simp; omega)) _)
          | exact HE.out _ k6
          | exact HE.out _ k5
          | exact HE.out _ k4)
        (first
          | (go_at_call 84; (with_reducible refine (HS.out _ ?_).mono ?_); exact HB3.out.drew; rintro e w4 ⟨out, A2, n2, c2, rfl, ho2, hl2, hd2, hv2, _, hb4⟩; have hz4 := hb4.size; simp at hz4; have k4 := K3.out.drew.trans (hb4.mono (B' := w.heap.size + 1 + 1) (by first | omega | (simp; done) | (simp; omega))))
          | (go_at_call 71; (with_reducible refine (laid_own (!(na == nb)) ho2 hl2 hd2 (HV.out _ hv2)).mono ?_); rintro e w5 ⟨v, rfl, ⟨A3, c3, rfl, ho3⟩, hb5⟩; have hz5 := hb5.size; have k5 := k4.trans (hb5.mono (B' := w.heap.size + 1 + 1) (by first | omega | (simp; done) | (simp; omega))))
          | (go_at_call 83; (with_reducible refine (HQ.out _ _ _ _ ho3).mono ?_); rintro e w6 ⟨rfl, hb6⟩; have hz6 := hb6.size; have k6 := k5.trans (hb6.mono (B' := w.heap.size + 1 + 1) (by first | omega | (simp; done) | (simp; omega))); obtain ⟨r0, r1, r2, r3⟩ := (HK.out _ _ (H3.out.drew.trans ((hb4.trans ((hb5.mono hb4.size).trans (hb6.mono (Nat.le_trans hb4.size hb5.size)))).mono (by first | omega | (simp; done) | (simp; omega)))) (by first | omega | (simp; done) | (simp; omega))).2.2))
      have HB6 := HB3.out.drew.trans ((hb4.trans ((hb5.mono hb4.size).trans (hb6.mono (Nat.le_trans hb4.size hb5.size)))).mono (B' := w.heap.size) (by first | omega | (simp; done) | (simp; omega)))
      have ho6 := ho3.below hb6 (Nat.le_refl _)
      go_wp2
    · have hr := ResI.stored (w := w) (g := w.heap.size + 1 + 1) (u := .bool (decide (Z < 0))) (u' := .slice A3 (digs W Z.natAbs).length c3) ⟨A3, c3, rfl, ho6⟩ HB6 (by first | omega | (simp; done) | (simp; omega)) (by first | omega | (simp; done) | (simp; omega))
      exact bodyPost_ret (v := .tuple #[.agg #[.bool (decide (Z < 0)), .slice A3 (digs W Z.natAbs).length c3], .int .i64 0]) (by simp [results, Try.results46, go_sem, r0, r1]) rfl
        (PostC.ok (by simp [err]) hr.1 hr.2)
    · exact bodyPost_ret (v := .tuple #[zeroV, .int .i64 10]) (by simp [results, Try.results46, go_sem, r0, r1]) rfl
        (PostC.bad (by simp [err]) (by decide) ((HB6.setCell (by first | omega | (simp; done) | (simp; omega)) _).setCell (by first | omega | (simp; done) | (simp; omega)) _))
  · rw [hb] at HL
    clear hb
    go_enter Try.func46, Try.ntmps46
    go_wp2_with fail
    refine HL.out.mono ?_
    rintro ex w3 ⟨rfl, hb3⟩
    obtain ⟨⟨q0, q1⟩, ⟨q2, q3⟩, r0, r1, r2, r3⟩ := HK.out _ _ hb3 (by simp)
    have HB3 := Lib.hid (HW.out.trans (hb3.mono (B' := w.heap.size) (by first | omega | (simp; done) | (simp; omega))))
    clear hb3
    go_wp2_with fail
    exact bodyPost_ret (v := .tuple #[zeroV, .int .i64 10]) (by simp [results, Try.results46, go_sem, r0, r1]) rfl
      (PostC.bad (by simp [err]) (by decide) ((HB3.out.setCell (by first | omega | (simp; done) | (simp; omega)) _).setCell (by first | omega | (simp; done) | (simp; omega)) _))
end Go.Proofs.Ytggdmhkdmkldoaa
