import Derived.Test.YtggdmhkdmkldoaaCn
namespace Go.Proofs.Ytggdmhkdmkldoaa
open Go.RowKit Hb

set_option maxRecDepth 100000 in
set_option maxHeartbeats 1000000 in
theorem abs_any {neg : Bool} {A : Option Addr} {l : List Nat} {n c : Nat} {w : World} {x y : Int} (hs : SlU w w.heap.size A n c l) (hn : n ≤ 1000) (hx : ival neg l = x) (hy : (x.natAbs : Int) = y) :
    Calls Try.prog 49 #[.agg #[.bool neg, .slice A n c]] w (PostI w y) := by
  have HB := Lib.hid (Below.refl w.heap.size w)
  have HS := Lib.hid (fun w1 (hb : Below w.heap.size w w1) => sign_any neg (hs.below (C := w.heap.size) hb (Nat.le_refl _)) hb.size)
  have HNg := Lib.hid (fun w1 (hb : Below w.heap.size w w1) => neg_any neg (hs.below (C := w.heap.size) hb (Nat.le_refl _)) (by omega) hb.size)
  have HNm := Lib.hid (fun w1 (hb : Below w.heap.size w w1) => norm_any neg (hs.below (C := w.heap.size) hb (Nat.le_refl _)) (by omega) hb.size)
  rw [hx] at HS HNm
  have hng : ival (!neg) l = -x := by rw [← hx]; cases neg <;> simp [ival]
  rw [hng] at HNg
  have h0 := (Bx.new w (.bool neg) (.slice A n c)).alloc (.cells #[.bool false, .slice none 0 0] 24)
  have h1 : Bx ((w.alloc (.cells #[.bool neg, .slice A n c] 24)).alloc (.cells #[.bool false, .slice none 0 0] 24)) (w.heap.size + 1) (.bool false) (.slice none 0 0) := by
    have := Bx.new (w.alloc (.cells #[.bool neg, .slice A n c] 24)) (.bool false) (.slice none 0 0); simpa only [World.size_alloc] using this
  have HX := Lib.hid (And.intro h0 h1)
  have HW := Lib.hid (((Below.refl w.heap.size w).alloc (Nat.le_refl _) (.cells #[.bool neg, .slice A n c] 24)).alloc (by simp) (.cells #[.bool false, .slice none 0 0] 24))
  have hsg : decide (x.sign < 0) = decide (x < 0) := decide_eq_decide.2 Int.sign_neg_iff
  clear hs hx hng h0 h1
  by_cases hlt : x < 0
  · have hyx : -x = y := by omega
    rw [hyx] at HNg
    have hd : decide (x.sign < 0) = true := by rw [hsg]; exact decide_eq_true hlt
    generalize x.sign = sv at *
    clear hyx hlt hsg hy
    go_enter Try.func49, Try.ntmps49
    go_wp2_with fail
    refine (HS.out _ HW.out).mono ?_
    rintro ex w3 ⟨rfl, hb3⟩
    have hz3 := hb3.size
    simp at hz3
    have HX3 := Lib.hid (And.intro (HX.out.1.below hb3 (by simp; omega)) (HX.out.2.below hb3 (by simp)))
    have HW3 := Lib.hid (HW.out.trans (hb3.mono (B' := w.heap.size) (by simp; omega)))
    obtain ⟨a0, a1, _, _⟩ := HX3.out.1.facts
    clear hb3
    go_wp2_with fail
    refine (HNg.out _ HW3.out).mono ?_
    rintro ex w4 ⟨v, rfl, ⟨A2, c2, rfl, ho2⟩, hb4⟩
    obtain ⟨r0, r1, r2, r3⟩ := (HX3.out.2.below hb4 (by omega)).facts
    have HR := Lib.hid (fun u u' => ResI.stored (w := w) (g := w.heap.size + 1) (u := u) (u' := u') ⟨A2, c2, rfl, ho2⟩ (HW3.out.trans (hb4.mono (B' := w.heap.size) (by omega))) (by omega) (by omega))
    clear ho2 hb4 a0 a1
    go_wp2
    exact bodyPost_ret (v := .agg #[.bool (decide (y < 0)), .slice A2 (digs W y.natAbs).length c2]) (by simp [results, Try.results49, go_sem, r0, r1]) rfl ⟨_, rfl, (HR.out _ _).1, (HR.out _ _).2⟩
  · have hyx : x = y := by omega
    rw [hyx] at HNm
    have hd : decide (x.sign < 0) = false := by rw [hsg]; exact decide_eq_false hlt
    generalize x.sign = sv at *
    clear hyx hlt hsg hy
    go_enter Try.func49, Try.ntmps49
    go_wp2_with fail
    refine (HS.out _ HW.out).mono ?_
    rintro ex w3 ⟨rfl, hb3⟩
    have hz3 := hb3.size
    simp at hz3
    have HX3 := Lib.hid (And.intro (HX.out.1.below hb3 (by simp; omega)) (HX.out.2.below hb3 (by simp)))
    have HW3 := Lib.hid (HW.out.trans (hb3.mono (B' := w.heap.size) (by simp; omega)))
    obtain ⟨a0, a1, _, _⟩ := HX3.out.1.facts
    clear hb3
    go_wp2_with fail
    refine (HNm.out _ HW3.out).mono ?_
    rintro ex w4 ⟨v, rfl, ⟨A2, c2, rfl, ho2⟩, hb4⟩
    obtain ⟨r0, r1, r2, r3⟩ := (HX3.out.2.below hb4 (by omega)).facts
    have HR := Lib.hid (fun u u' => ResI.stored (w := w) (g := w.heap.size + 1) (u := u) (u' := u') ⟨A2, c2, rfl, ho2⟩ (HW3.out.trans (hb4.mono (B' := w.heap.size) (by omega))) (by omega) (by omega))
    clear ho2 hb4 a0 a1
    go_wp2
    exact bodyPost_ret (v := .agg #[.bool (decide (y < 0)), .slice A2 (digs W y.natAbs).length c2]) (by simp [results, Try.results49, go_sem, r0, r1]) rfl ⟨_, rfl, (HR.out _ _).1, (HR.out _ _).2⟩

/-- two integers handed back -/
def QR2 (w : World) (z1 z2 : Int) (e : Ending) (w' : World) : Prop :=
  ∃ v1 v2, e = .returned (.tuple #[v1, v2, .int .i64 0]) ∧ ResI w' w.heap.size v1 z1 ∧ ResI w' w.heap.size v2 z2 ∧ Below w.heap.size w w'
def QRz (w : World) (e : Ending) (w' : World) : Prop := e = .returned (.tuple #[zeroV, zeroV, .int .i64 11]) ∧ Below w.heap.size w w'
section
variable {w : World} {A A' : Option Addr} {n c n' c' : Nat} {l m : List Nat} {na nb : Bool} {x y z1 z2 : Int}
theorem QuoRem_z (hs : SlU w w.heap.size A n c l) (ht : SlU w w.heap.size A' n' c' m) (hn : n ≤ 1000) (hn' : n' ≤ 1000) (hx : ival na l = x) (hy : ival nb m = y) (hy0 : y ≠ 0) (e1 : x.tdiv y = z1) (e2 : x.tmod y = z2) (t1 : tooLong x = false) (t2 : tooLong y = false) :
    Calls Try.prog 20 #[.agg #[.bool na, .slice A n c], .agg #[.bool nb, .slice A' n' c']] w (QR2 w z1 z2) := by
  have h := QuoRem_any na nb hs ht (by omega) (by omega) (Nat.le_refl _) (Nat.le_refl _)
  rw [hx, hy, e1, e2, lng_ival hx, lng_ival hy, t1, t2, Bool.or_false, if_neg (by simp), if_neg hy0] at h
  refine h.mono fun e w' h => ?_
  obtain ⟨v1, v2, h1, h2, _, h3⟩ := h
  exact ⟨v1, v2, h1, (h2 rfl).1, (h2 rfl).2.1, h3⟩
theorem DivMod_z (hs : SlU w w.heap.size A n c l) (ht : SlU w w.heap.size A' n' c' m) (hn : n ≤ 1000) (hn' : n' ≤ 1000) (hx : ival na l = x) (hy : ival nb m = y) (hy0 : y ≠ 0) (e1 : dvD x y = z1) (e2 : dvM x y = z2) (t1 : tooLong x = false) (t2 : tooLong y = false) (t3 : tooLong z1 = false) :
    Calls Try.prog 21 #[.agg #[.bool na, .slice A n c], .agg #[.bool nb, .slice A' n' c']] w (QR2 w z1 z2) := by
  have h := DivMod_any na nb hs ht (by omega) (by omega) (Nat.le_refl _) (Nat.le_refl _)
  have hc : dvCode false x y = 0 := by rw [dvCode, if_neg (by simp), if_neg hy0, e1, t3]; rfl
  rw [hx, hy, e1, e2, lng_ival hx, lng_ival hy, t1, t2, Bool.or_false, hc] at h
  refine h.mono fun e w' h => ?_
  obtain ⟨v1, v2, h1, h2, _, h3⟩ := h
  exact ⟨v1, v2, h1, (h2 rfl).1, (h2 rfl).2.1, h3⟩
theorem QuoRem_0 (hs : SlU w w.heap.size A n c l) (ht : SlU w w.heap.size A' n' c' m) (hn : n ≤ 1000) (hn' : n' ≤ 1000) (hx : ival na l = x) (hy : ival nb m = y) (hy0 : y = 0) (t1 : tooLong x = false) (t2 : tooLong y = false) :
    Calls Try.prog 20 #[.agg #[.bool na, .slice A n c], .agg #[.bool nb, .slice A' n' c']] w (QRz w) := by
  have h := QuoRem_any na nb hs ht (by omega) (by omega) (Nat.le_refl _) (Nat.le_refl _)
  rw [hx, hy, lng_ival hx, lng_ival hy, t1, t2, Bool.or_false, if_neg (by simp), if_pos hy0] at h
  refine h.mono fun e w' h => ?_
  obtain ⟨v1, v2, h1, _, h2, h3⟩ := h
  obtain ⟨rfl, rfl⟩ := h2 (by decide)
  exact ⟨h1, h3⟩
theorem DivMod_0 (hs : SlU w w.heap.size A n c l) (ht : SlU w w.heap.size A' n' c' m) (hn : n ≤ 1000) (hn' : n' ≤ 1000) (hx : ival na l = x) (hy : ival nb m = y) (hy0 : y = 0) (t1 : tooLong x = false) (t2 : tooLong y = false) :
    Calls Try.prog 21 #[.agg #[.bool na, .slice A n c], .agg #[.bool nb, .slice A' n' c']] w (QRz w) := by
  have h := DivMod_any na nb hs ht (by omega) (by omega) (Nat.le_refl _) (Nat.le_refl _)
  have hc : dvCode false x y = 11 := by rw [dvCode, if_neg (by simp), if_pos hy0]
  rw [hx, hy, lng_ival hx, lng_ival hy, t1, t2, Bool.or_false, hc] at h
  refine h.mono fun e w' h => ?_
  obtain ⟨v1, v2, h1, _, h2, h3⟩ := h
  obtain ⟨rfl, rfl⟩ := h2 (by decide)
  exact ⟨h1, h3⟩
end
/-- behind a call: two results, of the call's own, in two new variables -/
theorem Env.call_push2 {w0 w w' : World} {vs : List VE} (h : Env w0 w vs) (hold : Old w vs) (hb : Below w.heap.size w w') {neg neg2 : Bool} {A A2 : Option Addr} {n c n2 c2 : Nat} {l l2 : List Nat} (ho : OwnU w' w.heap.size A n c (u32s l)) (hd : Dig W l) (hl : l.length = n)
    (ho2 : OwnU w' w.heap.size A2 n2 c2 (u32s l2)) (hd2 : Dig W l2) (hl2 : l2.length = n2) :
    Env w0 ((w'.alloc (.cells #[.bool neg, .slice A n c] 24)).alloc (.cells #[.bool neg2, .slice A2 n2 c2] 24)) (⟨w'.heap.size + 1, neg2, A2, n2, c2, l2⟩ :: ⟨w'.heap.size, neg, A, n, c, l⟩ :: vs) ∧
      Old ((w'.alloc (.cells #[.bool neg, .slice A n c] 24)).alloc (.cells #[.bool neg2, .slice A2 n2 c2] 24)) (⟨w'.heap.size + 1, neg2, A2, n2, c2, l2⟩ :: ⟨w'.heap.size, neg, A, n, c, l⟩ :: vs) := by
  have k := h.call_push hold hb (neg := neg) ho hd hl
  have hz : (w'.alloc (.cells #[.bool neg, .slice A n c] 24)).heap.size = w'.heap.size + 1 := by simp
  have ho3 := Own.alloc ho2 (.cells #[.bool neg, .slice A n c] 24)
  have p := k.1.push (neg := neg2) (Own.sl ho3 hd2 hl2) (fun _ u hu b o e => ?_) (fun _ b o e => (own_block ho3 e).2) k.2
  · rw [hz] at p
    refine ⟨p, fun v hv hne b o e => ?_⟩
    have hz2 : ((w'.alloc (.cells #[.bool neg, .slice A n c] 24)).alloc (.cells #[.bool neg2, .slice A2 n2 c2] 24)).heap.size = w'.heap.size + 1 + 1 := by simp
    rcases List.mem_cons.1 hv with rfl | hv
    · have := (own_block ho2 e).2; omega
    · have := k.2 v hv hne b o e; omega
  · have h1 := own_block ho2 e
    rcases List.mem_cons.1 hu with rfl | hu
    · exact Nat.ne_of_lt h1.2
    · have h2 := (h.x hu).lt; omega
theorem qr_sum (x y : Int) : x.tdiv y * y + x.tmod y = x := by
  rw [Int.mul_comm]; exact Int.mul_tdiv_add_tmod x y
theorem dm_sum (x y : Int) : dvD x y * y + dvM x y = x := by
  have h := qr_sum x y
  unfold dvD dvM
  split
  · rw [Int.add_mul]; omega
  · exact h
theorem r_abs {x y : Int} (hy : y ≠ 0) : (x.tmod y).natAbs < y.natAbs := by
  rw [Int.natAbs_tmod]
  exact Nat.mod_lt _ (by omega)
theorem r_sign {x y : Int} (h : x.tmod y ≠ 0) : (x.tmod y).sign = x.sign := by
  rcases Int.lt_trichotomy x 0 with hx | hx | hx
  · have h1 : x.tmod y ≤ 0 := by
      have := Int.tmod_nonneg y (a := -x) (by omega)
      rw [Int.neg_tmod] at this; omega
    rw [Int.sign_eq_neg_one_of_neg hx, Int.sign_eq_neg_one_of_neg (by omega)]
  · subst hx; simp at h
  · have h1 := Int.tmod_nonneg y (a := x) (by omega)
    rw [Int.sign_eq_one_of_pos hx, Int.sign_eq_one_of_pos (by omega)]
theorem m_cases {x y : Int} (_hy : y ≠ 0) : (dvC x y = false ∧ dvD x y = x.tdiv y ∧ dvM x y = x.tmod y ∧ (x.tmod y = 0 ∨ (x.tmod y < 0 ↔ y < 0))) ∨ (dvC x y = true ∧ dvD x y = x.tdiv y + -1 ∧ dvM x y = x.tmod y + y ∧ x.tmod y ≠ 0 ∧ ¬ (x.tmod y < 0 ↔ y < 0)) := by
  cases hc : dvC x y
  · left
    refine ⟨rfl, by simp [dvD, hc], by simp [dvM, hc], ?_⟩
    simp only [dvC, Bool.and_eq_false_iff, decide_eq_false_iff_not, Classical.not_not] at hc
    rcases hc with h | h
    · exact .inl h
    · right; simpa using h
  · right
    refine ⟨rfl, by simp [dvD, hc], by simp [dvM, hc], ?_⟩
    simp only [dvC, Bool.and_eq_true, decide_eq_true_eq] at hc
    exact ⟨hc.1, fun h => hc.2 (by simpa using h)⟩
theorem m_abs {x y : Int} (hy : y ≠ 0) : (dvM x y).natAbs < y.natAbs := by
  have h1 := r_abs (x := x) hy
  rcases m_cases (x := x) hy with ⟨_, _, h, _⟩ | ⟨_, _, h, h2, h3⟩
  · rw [h]; exact h1
  · rw [h]; omega
theorem m_zero {x y : Int} (hy : y ≠ 0) : x.tmod y = 0 ↔ dvM x y = 0 := by
  have h1 := r_abs (x := x) hy
  rcases m_cases (x := x) hy with ⟨_, _, h, _⟩ | ⟨_, _, h, h2, h3⟩
  · rw [h]
  · rw [h]; constructor
    · intro h; exact absurd h h2
    · intro h; omega
theorem m_sign {x y : Int} (hy : y ≠ 0) (hm : dvM x y ≠ 0) : (dvM x y).sign = y.sign := by
  have h1 := r_abs (x := x) hy
  have key : (dvM x y < 0 ∧ y < 0) ∨ (0 < dvM x y ∧ 0 < y) := by
    rcases m_cases (x := x) hy with ⟨_, _, h, h2⟩ | ⟨_, _, h, h2, h3⟩
    · rw [h] at hm ⊢
      rcases h2 with h2 | h2
      · exact absurd h2 hm
      · omega
    · rw [h] at hm ⊢; omega
  rcases key with ⟨a, b⟩ | ⟨a, b⟩
  · rw [Int.sign_eq_neg_one_of_neg a, Int.sign_eq_neg_one_of_neg b]
  · rw [Int.sign_eq_one_of_pos a, Int.sign_eq_one_of_pos b]
/-- the two quotients are apart just where something remains and the signs are unlike -/
theorem qd_apart {x y : Int} (hy : y ≠ 0) : (x.tdiv y = dvD x y) ↔ (x.tmod y = 0 ∨ x.sign = y.sign) := by
  by_cases hr : x.tmod y = 0
  · rcases m_cases (x := x) hy with ⟨_, h, _, _⟩ | ⟨_, _, _, h2, _⟩
    · rw [h]; simp [hr]
    · exact absurd hr h2
  · have hs := r_sign hr
    rcases m_cases (x := x) hy with ⟨_, h, _, h2⟩ | ⟨_, h, _, _, h3⟩
    · rw [h]
      constructor
      · intro _; right
        rw [← hs]
        rcases h2 with h2 | h2
        · exact absurd h2 hr
        · by_cases h4 : y < 0
          · rw [Int.sign_eq_neg_one_of_neg h4, Int.sign_eq_neg_one_of_neg (h2.2 h4)]
          · rw [Int.sign_eq_one_of_pos (by omega : 0 < y), Int.sign_eq_one_of_pos (by have := mt h2.1 h4; omega)]
      · intro _; rfl
    · rw [h]
      constructor
      · intro h4; omega
      · rintro (h4 | h4)
        · exact absurd h4 hr
        · exfalso
          apply h3
          rw [← hs] at h4
          rw [← Int.sign_neg_iff, h4, Int.sign_neg_iff]
end Go.Proofs.Ytggdmhkdmkldoaa
