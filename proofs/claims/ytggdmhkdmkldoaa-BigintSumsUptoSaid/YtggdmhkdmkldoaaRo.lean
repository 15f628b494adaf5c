import Derived.Test.YtggdmhkdmkldoaaRy
import Derived.Test.YtggdmhkdmkldoaaLw
import Derived.Test.YtggdmhkdmkldoaaLu
namespace Go.Proofs.Ytggdmhkdmkldoaa
open Go.RowKit Hb

/-! ### the calls of a law by the document's answer -/
/-- an answer: the integer, or nought with an error -/
def Good (z : Int) (code : Int) (neg : Bool) (A : Option Addr) (n c : Nat) (l : List Nat) : Prop :=
  (code = 0 → neg = decide (z < 0) ∧ l = digs W z.natAbs) ∧ (code ≠ 0 → neg = false ∧ A = none ∧ n = 0 ∧ c = 0)
def AnsPost (w : World) (z code : Int) (e : Ending) (w' : World) : Prop :=
  ∃ neg A n c l, e = .returned (.tuple #[.agg #[.bool neg, .slice A n c], .int .i64 code]) ∧ OwnU w' w.heap.size A n c (u32s l) ∧ Good z code neg A n c l ∧ Below w.heap.size w w'
theorem own_nilU (w : World) (B : Nat) : OwnU w B none 0 0 (u32s []) := ⟨rfl, .inl ⟨rfl, rfl⟩⟩
theorem PostC.ans {w w' : World} {z code : Int} {e : Ending} (h : PostC w z code e w') : AnsPost w z code e w' := by
  obtain ⟨v, he, h0, h1, hb⟩ := h
  by_cases hc : code = 0
  · obtain ⟨A, c, rfl, ho⟩ := h0 hc
    exact ⟨_, A, _, c, _, he, ho, ⟨fun _ => ⟨rfl, rfl⟩, fun h => absurd hc h⟩, hb⟩
  · obtain rfl := h1 hc
    exact ⟨false, none, 0, 0, [], he, own_nilU _ _, ⟨fun h => absurd h hc, fun _ => ⟨rfl, rfl, rfl, rfl⟩⟩, hb⟩
/-- the code of a call: the arguments' one, else the answer's -/
def codeOf (bad : Int) (z : Int) : Int := if bad = 0 then err (tooLong z) else bad
theorem codeOf_err (b : Bool) (z : Int) : err (b || tooLong z) = codeOf (err b) z := by
  cases b <;> cases h : tooLong z <;> simp [err, codeOf, h]
theorem rlng_digs (z : Int) : rlng (digs 2 z.natAbs).length = tooLong z := rfl
section
variable {w : World} {A A' : Option Addr} {n c n' c' : Nat} {l m : List Nat} {na nb : Bool} {x y z : Int}
theorem Of_w (hs : SlU w w.heap.size A n c l) (hn : n ≤ 1048576) (hx : ival na l = x) :
    Calls Try.prog 17 #[.agg #[.bool na, .slice A n c]] w (PostB w x) := Of_any na hs (by omega) (Nat.le_refl _) hx
theorem bits_leK (hs : SlU w w.heap.size A n c l) {k : Nat} (hn : 32 * n ≤ k) (hx : ival na l = x) : (digs 2 x.natAbs).length ≤ k := by
  refine digs_length_le (by decide) ?_
  rw [← hx, ival_natAbs]
  have h1 := nv_lt hs.dig
  rw [hs.len, show (4294967296 : Nat) = 2 ^ 32 from rfl, ← Nat.pow_mul] at h1
  exact Nat.lt_of_lt_of_le h1 (Nat.pow_le_pow_right (by decide) hn)
theorem bits_le (hs : SlU w w.heap.size A n c l) (hn : n ≤ 1048576) (hx : ival na l = x) : (digs 2 x.natAbs).length ≤ 33554432 := bits_leK hs (by omega) hx
theorem Add_w (hs : SlU w w.heap.size A n c l) (ht : SlU w w.heap.size A' n' c' m) (hn : n ≤ 1048576) (hn' : n' ≤ 1048576) (hx : ival na l = x) (hy : ival nb m = y) (hz : x + y = z) :
    Calls Try.prog 47 #[.agg #[.bool na, .slice A n c], .agg #[.bool nb, .slice A' n' c']] w (AnsPost w z (codeOf (err (tooLong x || tooLong y)) z)) := by
  have h := Add_any na nb hs ht (by omega) (by omega) (Nat.le_refl _) (Nat.le_refl _)
  rw [hx, hy, hz, lng_ival hx, lng_ival hy, codeOf_err] at h
  exact h.mono fun _ _ h => h.ans
theorem Sub_w (hs : SlU w w.heap.size A n c l) (ht : SlU w w.heap.size A' n' c' m) (hn : n ≤ 1048576) (hn' : n' ≤ 1048576) (hx : ival na l = x) (hy : ival nb m = y) (hz : x - y = z) :
    Calls Try.prog 50 #[.agg #[.bool na, .slice A n c], .agg #[.bool nb, .slice A' n' c']] w (AnsPost w z (codeOf (err (tooLong x || tooLong y)) z)) := by
  have h := Sub_any na nb hs ht (by omega) (by omega) (Nat.le_refl _) (Nat.le_refl _)
  rw [hx, hy, hz, lng_ival hx, lng_ival hy, codeOf_err] at h
  exact h.mono fun _ _ h => h.ans
theorem Mul_w (hs : SlU w w.heap.size A n c l) (ht : SlU w w.heap.size A' n' c' m) (hn : n ≤ 1048576) (hn' : n' ≤ 1048576) (hx : ival na l = x) (hy : ival nb m = y) (hz : x * y = z) :
    Calls Try.prog 46 #[.agg #[.bool na, .slice A n c], .agg #[.bool nb, .slice A' n' c']] w (AnsPost w z (codeOf (err (tooLong x || tooLong y)) z)) := by
  have h := Mul_any na nb hs ht (by omega) (Nat.le_refl _) (Nat.le_refl _)
  rw [hx, hy, hz, lng_ival hx, lng_ival hy, codeOf_err] at h
  exact h.mono fun _ _ h => h.ans
theorem lent_sl {B : Nat} (h : OwnU w B A (n + 3) c (u32s (l ++ [77, 77, 77]))) (hl : l.length = n) (hd : Dig W l) : SlU w w.heap.size A n c l := by
  have h2 := h.take (k := n) (by omega)
  rw [u32s_take, List.take_append_of_le_length (by omega), List.take_of_length_le (by omega)] at h2
  exact h2.sl hd hl
variable {E : Int}
theorem Add_we (hE : err (tooLong x || tooLong y) = E) (hs : SlU w w.heap.size A n c l) (ht : SlU w w.heap.size A' n' c' m) (hn : n ≤ 1048576) (hn' : n' ≤ 1048576) (hx : ival na l = x) (hy : ival nb m = y) (hz : x + y = z) :
    Calls Try.prog 47 #[.agg #[.bool na, .slice A n c], .agg #[.bool nb, .slice A' n' c']] w (AnsPost w z (codeOf E z)) := hE ▸ Add_w hs ht hn hn' hx hy hz
theorem Sub_we (hE : err (tooLong x || tooLong y) = E) (hs : SlU w w.heap.size A n c l) (ht : SlU w w.heap.size A' n' c' m) (hn : n ≤ 1048576) (hn' : n' ≤ 1048576) (hx : ival na l = x) (hy : ival nb m = y) (hz : x - y = z) :
    Calls Try.prog 50 #[.agg #[.bool na, .slice A n c], .agg #[.bool nb, .slice A' n' c']] w (AnsPost w z (codeOf E z)) := hE ▸ Sub_w hs ht hn hn' hx hy hz
theorem Mul_we (hE : err (tooLong x || tooLong y) = E) (hs : SlU w w.heap.size A n c l) (ht : SlU w w.heap.size A' n' c' m) (hn : n ≤ 1048576) (hn' : n' ≤ 1048576) (hx : ival na l = x) (hy : ival nb m = y) (hz : x * y = z) :
    Calls Try.prog 46 #[.agg #[.bool na, .slice A n c], .agg #[.bool nb, .slice A' n' c']] w (AnsPost w z (codeOf E z)) := hE ▸ Mul_w hs ht hn hn' hx hy hz
theorem long_we (hE : err (tooLong x || tooLong y) = E) (s s' : Bool) (A A' : Option Addr) (c c' : Nat) (w : World) :
    Calls Try.prog 18 #[.agg #[.bool s, .slice A (digs 2 x.natAbs).length c], .agg #[.bool s', .slice A' (digs 2 y.natAbs).length c']] w (LongCode E w) := hE ▸ rlong_any s s' A A' _ c _ c' w
end
section
variable {w : World} {B B' : Nat} {A A' : Option Addr} {c c' : Nat} {x y z : Int}
/-- bits that are the law's own, read -/
theorem bits_sl (h : OwnI w B A (digs 2 x.natAbs).length c (i64s (digs 2 x.natAbs))) : SlI w w.heap.size A (digs 2 x.natAbs).length c (digs 2 x.natAbs) := h.sl (dig_digs (by decide) _) rfl
theorem Sum_w (hs : SlI w w.heap.size A (digs 2 x.natAbs).length c (digs 2 x.natAbs)) (ht : SlI w w.heap.size A' (digs 2 y.natAbs).length c' (digs 2 y.natAbs)) (hn : (digs 2 x.natAbs).length ≤ 33554432) (hn' : (digs 2 y.natAbs).length ≤ 33554432) (hz : x + y = z) :
    Calls Try.prog 51 #[.agg #[.bool (decide (x < 0)), .slice A (digs 2 x.natAbs).length c], .agg #[.bool (decide (y < 0)), .slice A' (digs 2 y.natAbs).length c']] w (PostB w z) :=
  rsum_any hs ht (by omega) (by omega) (Nat.le_refl _) (Nat.le_refl _) (nrm_digs (by decide) _) (nrm_digs (by decide) _) (bval_digs x) (bval_digs y) hz
theorem Times_w (hs : SlI w w.heap.size A (digs 2 x.natAbs).length c (digs 2 x.natAbs)) (ht : SlI w w.heap.size A' (digs 2 y.natAbs).length c' (digs 2 y.natAbs)) (hn : (digs 2 x.natAbs).length ≤ 33554432) (hn' : (digs 2 y.natAbs).length ≤ 33554432) (hz : x * y = z) :
    Calls Try.prog 52 #[.agg #[.bool (decide (x < 0)), .slice A (digs 2 x.natAbs).length c], .agg #[.bool (decide (y < 0)), .slice A' (digs 2 y.natAbs).length c']] w (PostB w z) :=
  Times_any hs ht (by omega) (by omega) (Nat.le_refl _) (Nat.le_refl _) (bval_digs x) (bval_digs y) hz
theorem sg_neg (y : Int) : sg (!(decide (y < 0))) (digs 2 y.natAbs) = decide (-y < 0) := by
  rw [← bval_sg, bval, nv_digs (by decide)]
  refine decide_eq_decide.2 ?_
  by_cases h1 : y < 0
  · rw [decide_eq_true h1]
    simp only [Bool.not_true, Bool.false_eq_true, if_false]
    omega
  · rw [decide_eq_false h1]
    simp only [Bool.not_false, if_true]
    omega
theorem Minus_w {my : Int} (hm : -y = my) (hs : SlI w w.heap.size A (digs 2 y.natAbs).length c (digs 2 y.natAbs)) :
    Calls Try.prog 37 #[.agg #[.bool (decide (y < 0)), .slice A (digs 2 y.natAbs).length c]] w fun e w' => e = .returned (.agg #[.bool (decide (my < 0)), .slice A (digs 2 y.natAbs).length c]) ∧ Below w.heap.size w w' := by
  have h := rminus_any (s := decide (y < 0)) hs (Nat.le_refl _) (nrm_digs (by decide) _)
  rwa [sg_neg, hm] at h
theorem Sum_m {my : Int} (hm : -y = my) (hs : SlI w w.heap.size A (digs 2 x.natAbs).length c (digs 2 x.natAbs)) (ht : SlI w w.heap.size A' (digs 2 y.natAbs).length c' (digs 2 y.natAbs)) (hn : (digs 2 x.natAbs).length ≤ 33554432) (hn' : (digs 2 y.natAbs).length ≤ 33554432) (hz : x + my = z) :
    Calls Try.prog 51 #[.agg #[.bool (decide (x < 0)), .slice A (digs 2 x.natAbs).length c], .agg #[.bool (decide (my < 0)), .slice A' (digs 2 y.natAbs).length c']] w (PostB w z) :=
  rsum_any hs ht (by omega) (by omega) (Nat.le_refl _) (Nat.le_refl _) (nrm_digs (by decide) _) (nrm_digs (by decide) _) (bval_digs x) (by have := bval_digs my; rwa [← hm, Int.natAbs_neg, hm] at this) hz
theorem is_w {n : Nat} {code bad : Int} {neg : Bool} {l : List Nat} (ho : OwnU w B A n c (u32s l)) (hB : B ≤ w.heap.size) (hg : Good z code neg A n c l) (ht : SlI w B' A' (digs 2 z.natAbs).length c' (digs 2 z.natAbs)) (hB' : B' ≤ w.heap.size) (hcode : code = codeOf bad z) :
    Calls Try.prog 25 #[.agg #[.bool neg, .slice A n c], .int .i64 code, .agg #[.bool (decide (z < 0)), .slice A' (digs 2 z.natAbs).length c'], .int .i64 bad] w (IsPost w (A.map Addr.block)) := by
  by_cases hc : code = 0
  · obtain ⟨rfl, rfl⟩ := hg.1 hc
    have hb : bad = 0 ∧ tooLong z = false := by
      rw [hcode, codeOf] at hc
      by_cases hb : bad = 0
      · rw [if_pos hb] at hc
        refine ⟨hb, ?_⟩
        cases h : tooLong z
        · rfl
        · rw [h] at hc; simp [err] at hc
      · rw [if_neg hb] at hc; exact absurd hc hb
    obtain ⟨rfl, hl⟩ := hb
    have hn := ho.length
    rw [u32s_length] at hn
    subst hn
    rw [hc]
    exact is_good ho hB ht hB' hl (Nat.le_trans (not_too_len hl) (by decide))
  · obtain ⟨rfl, rfl, rfl, rfl⟩ := hg.2 hc
    refine is_bad _ _ _ _ code bad w hc ?_
    rw [hcode, codeOf]
    by_cases hb : bad = 0
    · right
      rw [if_pos hb]
      refine ⟨hb, ?_, ?_⟩
      · rw [rlng_digs]
        cases h : tooLong z
        · rw [hcode, codeOf, if_pos hb, h] at hc; exact absurd rfl hc
        · rfl
      · cases h : tooLong z
        · rw [hcode, codeOf, if_pos hb, h] at hc; exact absurd rfl hc
        · rfl
    · left; rw [if_neg hb]
end
end Go.Proofs.Ytggdmhkdmkldoaa
