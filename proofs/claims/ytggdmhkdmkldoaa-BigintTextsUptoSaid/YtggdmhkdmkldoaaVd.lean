import Derived.Test.YtggdmhkdmkldoaaVc
namespace Go.Proofs.Ytggdmhkdmkldoaa
open Go.RowKit Hb
set_option linter.unusedVariables false
set_option linter.unusedSimpArgs false

/-! ### the calls of the law of texts -/
theorem Parse_w {s : ByteArray} {r z co : Int} (hs : s.size ≤ 1048576) (hz : pVal s.data.toList r = z) (hc : pCode s.data.toList r = co) (w : World) :
    Calls Try.prog 27 #[.string s, .int .i64 r] w (AnsPost w z co) := by
  have h := Parse_any s r w (by unfold maxLen; omega)
  rw [hz, hc] at h
  exact h.mono fun _ _ h => h.ans
/-- the reference's integer, where there is no error -/
def RpGood (w : World) (z : Int) (e : Ending) (w' : World) : Prop :=
  ∃ A c, e = .returned (.tuple #[.agg #[.bool (decide (z < 0)), .slice A (digs 2 z.natAbs).length c], .int .i64 0]) ∧ OwnI w' w.heap.size A (digs 2 z.natAbs).length c (i64s (digs 2 z.natAbs)) ∧ Below w.heap.size w w'
theorem rParse_w0 {s : ByteArray} {r z : Int} (hs : s.size ≤ 1048576) (hz : pVal s.data.toList r = z) (hc : pCode s.data.toList r = 0) (w : World) :
    Calls Try.prog 28 #[.string s, .int .i64 r] w (RpGood w z) := by
  have h := rParse_any s r w hs
  rw [hz, hc] at h
  refine h.mono fun e w' ⟨v, he, h0, _, hb⟩ => ?_
  obtain ⟨A, c, rfl, ho⟩ := h0 rfl
  exact ⟨A, c, he, ho, hb⟩
def RpBad (w : World) (co : Int) (e : Ending) (w' : World) : Prop := e = .returned (.tuple #[zeroV, .int .i64 co]) ∧ Below w.heap.size w w'
theorem rParse_w1 {s : ByteArray} {r co : Int} (hs : s.size ≤ 1048576) (hc : pCode s.data.toList r = co) (h0 : co ≠ 0) (w : World) :
    Calls Try.prog 28 #[.string s, .int .i64 r] w (RpBad w co) := by
  have h := rParse_any s r w hs
  rw [hc] at h
  refine h.mono fun e w' ⟨v, he, _, h1, hb⟩ => ?_
  obtain rfl := h1 h0
  exact ⟨he, hb⟩
/-- no error: the integer is not too long -/
theorem pCode_short {bs : List UInt8} {r z : Int} (hz : pVal bs r = z) (hc : pCode bs r = 0) : tooLong z = false := by
  rw [← hz]
  unfold pCode at hc
  split at hc
  · exact absurd hc (by decide)
  · split at hc
    · exact absurd hc (by decide)
    · cases h : tooLong (pVal bs r)
      · rfl
      · rw [h] at hc; exact absurd hc (by decide)
/-- what Text answers: letters and code -/
def tL (x r : Int) : List Nat := if tooLong x then [] else if r < 2 ∨ 36 < r then [] else txtZ x r.toNat
def tC (x r : Int) : Int := if tooLong x then 10 else if r < 2 ∨ 36 < r then 13 else 0
def TxPost (w : World) (l : List Nat) (co : Int) (e : Ending) (w' : World) : Prop := e = .returned (.tuple #[.string (strN l), .int .i64 co]) ∧ Below w.heap.size w w'
theorem Text_w {w : World} {A : Option Addr} {n c : Nat} {l : List Nat} {na : Bool} {x r : Int} {tl : List Nat} {tc : Int} (hs : SlU w w.heap.size A n c l) (hn : n ≤ 1048576) (hx : ival na l = x) (h1 : tL x r = tl) (h2 : tC x r = tc) :
    Calls Try.prog 29 #[.agg #[.bool na, .slice A n c], .int .i64 r] w (TxPost w tl tc) := by
  have h := Text_any na hs (by omega) (Nat.le_refl _) r
  have e1 : tList (lng l) na (nv W l) r = tl := by rw [← h1, tList, tL, lng_ival hx, txtZ_eq hx]
  have e2 : tCode (lng l) r = tc := by rw [← h2, tCode, tC, lng_ival hx]
  rw [e1, e2] at h
  exact h
end Go.Proofs.Ytggdmhkdmkldoaa
