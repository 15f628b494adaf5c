import Derived.Test.YtgfeainpeplphaaDoorHq
import Derived.Test.YtgfeainpeplphaaDoorIc
namespace Go.Proofs.YtgfeainpeplphaaDoor
open Go.RowKit Hb Ht
set_option linter.unusedVariables false
set_option linter.unusedSimpArgs false
attribute [local go_sem] Oper.semAt_some
/-! ### term.integer, the reference's canonical -/
def canonB (l : List UInt8) : Bool := decide (pCode l 10 = 0) && decide ((txtZ (pVal l 10) 10).map UInt8.ofNat = l)
theorem digs_W_le {n : Nat} {k : Nat} (h : blen n ≤ k) : (digs W n).length ≤ k :=
  digs_length_le (by decide) (Nat.lt_of_lt_of_le (blen_le_iff.1 h) (Nat.pow_le_pow_left (by decide) k))
theorem code_ok {l : List UInt8} (h : pCode l 10 = 0) : tooLong (pVal l 10) = false := by
  unfold pCode at h
  rw [if_neg (by decide)] at h
  split at h
  · cases h
  · unfold err at h
    cases hb : tooLong (pVal l 10) with
    | false => rfl
    | true => rw [hb] at h; cases h
theorem short_blen {z : Int} (h : tooLong z = false) : blen z.natAbs ≤ 4096 := by
  unfold tooLong at h
  have := of_decide_eq_false h
  omega
theorem ival_own (z : Int) : ival (decide (z < 0)) (digs W z.natAbs) = z := by
  unfold ival
  rw [nv_digs (by decide)]
  by_cases h : z < 0
  · rw [decide_eq_true h, if_pos rfl]; omega
  · rw [decide_eq_false h, if_neg (by simp)]; omega
theorem Text_z2 {w : World} {A : Option Addr} {n c : Nat} {l : List Nat} {neg : Bool} {z : Int} {s : ByteArray} (hs : SlU w w.heap.size A n c l) (hn : n ≤ 67108864) (hx : ival neg l = z) (t1 : tooLong z = false) (hq : strN (txtZ z 10) = s) :
    Calls Tryd.prog 92 #[.agg #[.bool neg, .slice A n c], .int .i64 10] w (TextQ w s) := by
  have h := Text_any neg hs hn (Nat.le_refl _) 10
  rw [lng_ival hx, t1, tList, tCode, if_neg (by simp), if_neg (by omega), if_neg (by simp), if_neg (by omega), show (10 : Int).toNat = 10 from rfl, txtZ_eq hx] at h
  rw [← hq]
  exact h
set_option maxRecDepth 100000 in
set_option maxHeartbeats 2000000 in
theorem integer_any (s : ByteArray) (w : World) (hs : s.size ≤ maxLen) :
    Calls Tryd.prog 82 #[.string s] w fun e w' => e = .returned (.bool (canonB s.data.toList)) ∧ Below w.heap.size w w' := by
  have HP := Lib.hid (Parse_any s 10 w hs)
  obtain ⟨co, hco⟩ : ∃ co, pCode s.data.toList 10 = co := ⟨_, rfl⟩
  obtain ⟨z, hz⟩ : ∃ z, pVal s.data.toList 10 = z := ⟨_, rfl⟩
  obtain ⟨st, hst⟩ : ∃ st, strN (txtZ z 10) = st := ⟨_, rfl⟩
  have hC : canonB s.data.toList = (decide (co = 0) && decide (st.data.toList = s.data.toList)) := by unfold canonB; rw [hco, hz, ← hst]; rfl
  rw [hC]
  obtain ⟨R, hR⟩ : ∃ R, (decide (co = 0) && decide (st.data.toList = s.data.toList)) = R := ⟨_, rfl⟩
  rw [hR]
  have HR := Lib.hid hR
  have HSt := Lib.hid hst
  rw [hco, hz] at HP
  have HT := Lib.hid (fun h : co = 0 => show tooLong z = false by rw [← hz]; exact code_ok (hco.trans h))
  clear hC hco hz hR hst
  go_enter Tryd.func82, Tryd.ntmps82
  go_wp2_with fail
  (with_reducible refine HP.out.mono ?_)
  rintro e w1 ⟨v, rfl, hv0, hv1, hb1⟩
  by_cases h0 : co = 0
  · subst h0
    obtain ⟨A, c, rfl, ho⟩ := hv0 rfl
    have ht := HT.out rfl
    have hbl := short_blen ht
    have hdl := digs_W_le hbl
    obtain ⟨n, hn⟩ : ∃ n, (digs W z.natAbs).length = n := ⟨_, rfl⟩
    rw [hn] at ho hdl
    have hsl : SlU w1 w1.heap.size A n c (digs W z.natAbs) := ho.sl (dig_digs (by decide) _) hn
    have HX := Lib.hid (Text_z2 (w := w1.alloc (.cells #[.bool (decide (z < 0)), .slice A n c] 127)) ((hsl.below (C := w1.heap.size) ((Below.refl _ _).alloc (Nat.le_refl _) _) (Nat.le_refl _)).mono (by simp)) (by omega) (ival_own z) ht HSt.out)
    have HB := Lib.hid (show Below w.heap.size w (w1.alloc (.cells #[.bool (decide (z < 0)), .slice A n c] 127)) from hb1.alloc hb1.size _)
    rw [hn]
    clear hv0 hv1 hb1 ho ht hbl hdl hsl hn
    go_wp2_with fail
    (with_reducible refine HX.out.mono ?_)
    rintro e w3 ⟨rfl, hb3⟩
    have HB3 := Lib.hid (HB.out.trans (hb3.mono HB.out.size))
    clear hb3
    by_cases he : st.data.toList = s.data.toList
    · have s1 : (st.toList == s.toList) = true := by rw [ByteArray.toList_eq, ByteArray.toList_eq, he]; simp
      have HE := Lib.hid (show true = R by rw [← HR.out, decide_eq_true he]; rfl)
      clear he
      go_wp2
      go_ret
      exact ⟨by rw [← HE.out]; rfl, HB3.out⟩
    · have s1 : (st.toList == s.toList) = false := by rw [ByteArray.toList_eq, ByteArray.toList_eq]; exact beq_eq_false_iff_ne.2 he
      have HE := Lib.hid (show false = R by rw [← HR.out, decide_eq_false he]; simp)
      clear he
      go_wp2
      go_ret
      exact ⟨by rw [← HE.out]; rfl, HB3.out⟩
  · have hv := hv1 h0
    subst hv
    have h0b : (co != 0) = true := by simpa using h0
    have HE := Lib.hid (show false = R by rw [← HR.out, decide_eq_false h0]; simp)
    have HB := Lib.hid hb1
    clear hv0 hv1 h0 hb1
    go_wp2
    go_ret
    exact ⟨by rw [← HE.out]; rfl, HB.out.alloc HB.out.size _⟩
end Go.Proofs.YtgfeainpeplphaaDoor
