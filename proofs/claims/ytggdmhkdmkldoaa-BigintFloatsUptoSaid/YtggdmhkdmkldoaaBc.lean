import Derived.Test.YtggdmhkdmkldoaaBb
namespace Go.Proofs.Ytggdmhkdmkldoaa
open Go.RowKit Hb

theorem ival_zero {neg : Bool} {l : List Nat} (h : tlen l = 0) : ival neg l = 0 := by
  have := (tlen_zero_iff (b := W) (by decide) l).1 h
  simp [ival, this]
theorem nv_pos_of {l : List Nat} (h : 0 < tlen l) : 0 < nv W l := by
  have := mt (tlen_zero_iff (b := W) (by decide) l).2 (by omega)
  omega
theorem sign_neg {l : List Nat} (h : 0 < tlen l) : (ival true l).sign = -1 := by
  have := nv_pos_of h
  rw [ival, if_pos rfl]; exact Int.sign_eq_neg_one_of_neg (by omega)
theorem sign_pos {l : List Nat} (h : 0 < tlen l) : (ival false l).sign = 1 := by
  have := nv_pos_of h
  rw [ival, if_neg (by simp)]; exact Int.sign_eq_one_of_pos (by omega)

set_option maxHeartbeats 400000 in
theorem sign_any (neg : Bool) {B : Nat} {A : Option Addr} {l : List Nat} {n c : Nat} {w : World} (hs : SlU w B A n c l) (hB : B ≤ w.heap.size) :
    Calls Try.prog 42 #[.agg #[.bool neg, .slice A n c]] w fun e w' => e = .returned (.int .i64 (ival neg l).sign) ∧ Below w.heap.size w w' := by
  have HI := Lib.hid (fun w1 (hb : Below w.heap.size w w1) => trim_any (hs.below (C := w.heap.size) hb hB))
  have HB := Lib.hid (Below.refl w.heap.size w)
  clear hs hB
  by_cases h0 : tlen l = 0
  · have HS := Lib.hid (show (ival neg l).sign = 0 by rw [ival_zero h0]; rfl)
    rw [h0] at HI
    clear h0
    go_enter Try.func42, Try.ntmps42
    go_wp2_with (go_at_call 80; refine (HI.out _ (HB.out.alloc (Nat.le_refl _) _)).mono ?_; rintro e w' ⟨rfl, rfl⟩)
    go_ret
    exact ⟨ret_int HS.out.symm, HB.out.alloc (Nat.le_refl _) _⟩
  · have h1 : 0 < tlen l := by omega
    have HS := Lib.hid (sign_neg h1)
    have HT := Lib.hid (sign_pos h1)
    generalize tlen l = k at HI h1 h0
    have hk : ((k : Int) == 0) = false := beq_eq_false_iff_ne.2 (by omega)
    cases neg
    all_goals
      go_enter Try.func42, Try.ntmps42
      go_wp2_with (go_at_call 80; refine (HI.out _ (HB.out.alloc (Nat.le_refl _) _)).mono ?_; rintro e w' ⟨rfl, rfl⟩)
      go_ret
      exact ⟨ret_int (by first | exact HS.out.symm | exact HT.out.symm), HB.out.alloc (Nat.le_refl _) _⟩

set_option maxHeartbeats 400000 in
theorem bits_any (neg : Bool) {B : Nat} {A : Option Addr} {l : List Nat} {n c : Nat} {w : World} (hs : SlU w B A n c l) (hn : n ≤ 67108864) (hB : B ≤ w.heap.size) :
    Calls Try.prog 45 #[.agg #[.bool neg, .slice A n c]] w fun e w' => e = .returned (.int .i64 (blen (nv W l))) ∧ Below w.heap.size w w' := by
  have HI := Lib.hid (fun w1 (hb : Below w.heap.size w w1) => size_any (hs.below (C := w.heap.size) hb hB) hn)
  have HB := Lib.hid (Below.refl w.heap.size w)
  clear hs hB hn
  go_enter Try.func45, Try.ntmps45
  go_wp2_with (go_at_call 75; refine (HI.out _ (HB.out.alloc (Nat.le_refl _) _)).mono ?_; rintro e w' ⟨rfl, rfl⟩)
  go_ret
  exact ⟨rfl, HB.out.alloc (Nat.le_refl _) _⟩

/-- -1, 0, 1 -/
def cmpN (a b : Nat) : Int := if a < b then -1 else if b < a then 1 else 0
theorem cmpN_lt {a b : Nat} (h : a < b) : cmpN a b = -1 := by simp [cmpN, h]
theorem cmpN_gt {a b : Nat} (h : b < a) : cmpN a b = 1 := by simp [cmpN, h]; omega
theorem cmpN_eq (a : Nat) : cmpN a a = 0 := by simp [cmpN]
/-- limbs from place i on: where these are the same, and the one below is less, all is -/
theorem nv_lt_at {b : Nat} {l m : List Nat} {i : Nat} (hl : Dig b l) (_hm : Dig b m) (hlen : l.length = m.length) (hi : i < l.length) (he : l.drop (i + 1) = m.drop (i + 1)) (h : l.getD i 0 < m.getD i 0) : nv b l < nv b m := by
  rw [nv_take_drop b l i, nv_take_drop b m i, drop_nv b l hi, drop_nv b m (by omega), he, Nat.min_eq_left (by omega), Nat.min_eq_left (by omega)]
  have h1 := nv_lt (hl.take i)
  rw [List.length_take, Nat.min_eq_left (by omega)] at h1
  have h2 := Nat.mul_le_mul_left (b ^ i) (show l.getD i 0 + b * nv b (m.drop (i + 1)) + 1 ≤ m.getD i 0 + b * nv b (m.drop (i + 1)) by omega)
  rw [Nat.mul_add] at h2
  omega
theorem drop_step {l m : List Nat} {i : Nat} (hlen : l.length = m.length) (hi : i < l.length) (he : l.drop (i + 1) = m.drop (i + 1)) (h : l.getD i 0 = m.getD i 0) : l.drop i = m.drop i := by
  rw [List.drop_eq_getElem_cons hi, List.drop_eq_getElem_cons (show i < m.length by omega), he]
  rw [getD_eq hi, getD_eq (show i < m.length by omega)] at h
  rw [h]

def CmpPost (a b : Nat) (w : World) (e : Ending) (w' : World) : Prop := e = .returned (.int .i64 (cmpN a b)) ∧ Dr w w'

set_option maxHeartbeats 1000000 in
theorem cmp_len {B B' : Nat} {A A' : Option Addr} {l m : List Nat} {n c n' c' : Nat} {w : World} (hs : SlU w B A n c l) (ht : SlU w B' A' n' c' m) (hne : tlen l ≠ tlen m) :
    Calls Try.prog 82 #[.slice A n c, .slice A' n' c'] w (CmpPost (nv W l) (nv W m) w) := by
  have H1 := Lib.hid (trim_any hs)
  have H2 := Lib.hid (trim_any ht)
  rcases Nat.lt_or_gt_of_ne hne with h | h
  · have HV := Lib.hid (cmpN_lt (by have := nv_lt_of_len (b := W) (by decide) hs.dig.tr (tr_nrm m) (by rw [tr_length, tr_length]; exact h); rwa [nv_tr, nv_tr] at this))
    clear hs ht
    generalize tlen l = x at *
    generalize tlen m = y at *
    have hb : (((x : Nat) : Int) != (y : Int)) = true := by rw [bne_iff_ne]; omega
    have hd : decide (x < y) = true := decide_eq_true h
    have hd' : decide ((x : Int) < (y : Int)) = true := decide_eq_true (by omega)
    go_enter Try.func82, Try.ntmps82
    go_wp2_with fail
    refine H1.out.mono ?_; rintro e w' ⟨rfl, rfl⟩
    go_wp2_with fail
    refine H2.out.mono ?_; rintro e w' ⟨rfl, rfl⟩
    go_wp2
    go_ret
    exact ⟨ret_int HV.out.symm, Dr.refl _⟩
  · have HV := Lib.hid (cmpN_gt (by have := nv_lt_of_len (b := W) (by decide) ht.dig.tr (tr_nrm l) (by rw [tr_length, tr_length]; exact h); rwa [nv_tr, nv_tr] at this))
    clear hs ht
    generalize tlen l = x at *
    generalize tlen m = y at *
    have hb : (((x : Nat) : Int) != (y : Int)) = true := by rw [bne_iff_ne]; omega
    have hd : decide (x < y) = false := decide_eq_false (by omega)
    have hd' : decide ((x : Int) < (y : Int)) = false := decide_eq_false (by omega)
    go_enter Try.func82, Try.ntmps82
    go_wp2_with fail
    refine H1.out.mono ?_; rintro e w' ⟨rfl, rfl⟩
    go_wp2_with fail
    refine H2.out.mono ?_; rintro e w' ⟨rfl, rfl⟩
    go_wp2
    go_ret
    exact ⟨ret_int HV.out.symm, Dr.refl _⟩

set_option maxHeartbeats 1000000 in
theorem cmp_same {B B' : Nat} {A A' : Option Addr} {l m : List Nat} {n c n' c' : Nat} {w : World} (hs : SlU w B A n c l) (ht : SlU w B' A' n' c' m) (heq : tlen l = tlen m) :
    Calls Try.prog 82 #[.slice A n c, .slice A' n' c'] w (CmpPost (nv W l) (nv W m) w) := by
  have H1 := Lib.hid (trim_any hs)
  have H2 := Lib.hid (trim_any ht)
  have h3 := hs.tr
  have h4 := ht.tr
  have hmx := hs.max
  have hcap := h3.cap
  unfold maxLen at hmx
  rw [← nv_tr W l, ← nv_tr W m]
  have e3 := h3.len
  have e4 := h4.len
  rw [← heq] at H2 e4 h4
  generalize tr l = l' at *
  generalize tr m = m' at *
  generalize tlen l = N at *
  clear hs ht heq
  have d3 := h3.dig
  have d4 := h4.dig
  have hlen : l'.length = m'.length := by omega
  have HL := Lib.hid (show ∀ j, j < N → l'.drop (j + 1) = m'.drop (j + 1) → l'.getD j 0 < m'.getD j 0 → cmpN (nv W l') (nv W m') = -1 from fun j hj h1 h2 => cmpN_lt (nv_lt_at d3 d4 hlen (by omega) h1 h2))
  have HG := Lib.hid (show ∀ j, j < N → l'.drop (j + 1) = m'.drop (j + 1) → m'.getD j 0 < l'.getD j 0 → cmpN (nv W l') (nv W m') = 1 from fun j hj h1 h2 => cmpN_gt (nv_lt_at d4 d3 hlen.symm (by omega) h1.symm h2))
  have HS := Lib.hid (show ∀ j, j < N → l'.drop (j + 1) = m'.drop (j + 1) → l'.getD j 0 = m'.getD j 0 → l'.drop j = m'.drop j from fun j hj h1 h2 => drop_step hlen (by omega) h1 h2)
  have H0 := Lib.hid (show l'.drop 0 = m'.drop 0 → cmpN (nv W l') (nv W m') = 0 from fun h => by simp at h; rw [h]; exact cmpN_eq _)
  have HN := Lib.hid (show l'.drop N = m'.drop N by rw [List.drop_eq_nil_of_le (by omega), List.drop_eq_nil_of_le (by omega)])
  have hN1 : N ≤ 9223372036854775807 := by omega
  clear hlen d3 d4 e3 e4 hmx hcap
  go_enter Try.func82, Try.ntmps82
  go_wp2_with fail
  refine H1.out.mono ?_; rintro e w' ⟨rfl, rfl⟩
  go_wp2_with fail
  refine H2.out.mono ?_; rintro e w' ⟨rfl, rfl⟩
  go_wp2
  go_loopw [5] (fun i wr => ∃ j : Nat, j ≤ N ∧ Hid (l'.drop j = m'.drop j) ∧ i = .int .i64 ((j : Int) - 1) ∧ Dr w wr) (fun i _ => (intOf i + 1).toNat)
  case atStart => exact ⟨N, Nat.le_refl _, HN, rfl, Dr.refl _⟩
  case round =>
    obtain ⟨j, hj, hd, rfl, hdr⟩ := hrel
    by_cases h0 : j = 0
    · subst h0
      have HV := Lib.hid (H0.out hd.out)
      go_wp2
      go_ret
      exact ⟨ret_int HV.out.symm, hdr⟩
    · obtain ⟨i, rfl⟩ : ∃ i, j = i + 1 := ⟨j - 1, by omega⟩
      obtain ⟨b, o, rfl, _, hc1⟩ := h3.at_ (by omega)
      obtain ⟨b', o', rfl, _, hc2⟩ := h4.at_ (by omega)
      have hx := (hdr.cell _).trans (hc1 i (by omega))
      have hy := (hdr.cell _).trans (hc2 i (by omega))
      have F1 := Lib.hid (HL.out i (by omega) hd.out)
      have F2 := Lib.hid (HG.out i (by omega) hd.out)
      have F3 := Lib.hid (HS.out i (by omega) hd.out)
      generalize l'.getD i 0 = x at *
      generalize m'.getD i 0 = y at *
      clear hc1 hc2 h3 h4 HL HG HS H0 HN h0
      have hi0 : (0 : Int) ≤ (i : Int) := by omega
      have hi1 : (i : Int) < (N : Int) := by omega
      rcases Nat.lt_trichotomy x y with h | h | h
      · have g1 : decide ((x : Int) < (y : Int)) = true := decide_eq_true (by omega)
        have HV := Lib.hid (F1.out h)
        go_wp2
        go_quiet (fail)
        go_wp2
        go_ret
        exact ⟨ret_int HV.out.symm, by first | exact hdr.more _ | exact (hdr.more _).more _⟩
      · subst h
        have g1 : decide ((x : Int) < (x : Int)) = false := decide_eq_false (by omega)
        have HD := Lib.hid (F3.out rfl)
        clear F1 F2 F3
        go_wp2
        go_quiet (fail)
        go_wp2
        go_quiet (fail)
        go_wp2
        go_roundw
        case rel => exact ⟨i, by omega, HD, by go_num, by first | exact hdr.more _ | exact (hdr.more _).more _⟩
        case measure => simp [intOf]
      · have g1 : decide ((x : Int) < (y : Int)) = false := decide_eq_false (by omega)
        have g2 : decide ((y : Int) < (x : Int)) = true := decide_eq_true (by omega)
        have HV := Lib.hid (F2.out h)
        go_wp2
        go_quiet (fail)
        go_wp2
        go_quiet (fail)
        go_wp2
        go_ret
        exact ⟨ret_int HV.out.symm, by first | exact hdr.more _ | exact (hdr.more _).more _⟩

theorem cmp_any {B B' : Nat} {A A' : Option Addr} {l m : List Nat} {n c n' c' : Nat} {w : World} (hs : SlU w B A n c l) (ht : SlU w B' A' n' c' m) :
    Calls Try.prog 82 #[.slice A n c, .slice A' n' c'] w (CmpPost (nv W l) (nv W m) w) := by
  by_cases h : tlen l = tlen m
  · exact cmp_same hs ht h
  · exact cmp_len hs ht h
end Go.Proofs.Ytggdmhkdmkldoaa
