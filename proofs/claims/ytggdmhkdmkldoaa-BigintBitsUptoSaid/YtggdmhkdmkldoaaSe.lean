import Derived.Test.YtggdmhkdmkldoaaSz
import Derived.Test.YtggdmhkdmkldoaaEl
namespace Go.Proofs.Ytggdmhkdmkldoaa
open Go.RowKit Hb
set_option linter.unusedVariables false

/-! ### the calls of the law of bits -/
theorem bit_all (bop : Bool → Bool → Bool) (x y : Int) : ∃ z : Int, ∀ i, ib z i = bop (ib x i) (ib y i) := by
  have hx := lt_pow_abs x
  have hy := lt_pow_abs y
  have h1 := pow_mono_int (Nat.le_max_left x.natAbs y.natAbs)
  have h2 := pow_mono_int (Nat.le_max_right x.natAbs y.natAbs)
  obtain ⟨z, hz, _⟩ := bit_ex bop (N := max x.natAbs y.natAbs) (x := x) (y := y) (by omega) (by omega)
  exact ⟨z, hz⟩
section
variable {w : World} {A A' : Option Addr} {n c n' c' : Nat} {l m : List Nat} {na nb : Bool} {x y z E : Int}
theorem And_we (hE : err (tooLong x || tooLong y) = E) (hs : SlU w w.heap.size A n c l) (ht : SlU w w.heap.size A' n' c' m) (hn : n ≤ 1048576) (hn' : n' ≤ 1048576) (hx : ival na l = x) (hy : ival nb m = y) (hz : ∀ i, ib z i = (ib x i && ib y i)) :
    Calls Try.prog 59 #[.agg #[.bool na, .slice A n c], .agg #[.bool nb, .slice A' n' c']] w (AnsPost w z (codeOf E z)) := by
  have h := And_any na nb hs ht (by omega) (by omega) hx hy hz
  rw [lng_ival hx, lng_ival hy, codeOf_err, hE] at h
  exact h.mono fun _ _ h => h.ans
theorem Or_we (hE : err (tooLong x || tooLong y) = E) (hs : SlU w w.heap.size A n c l) (ht : SlU w w.heap.size A' n' c' m) (hn : n ≤ 1048576) (hn' : n' ≤ 1048576) (hx : ival na l = x) (hy : ival nb m = y) (hz : ∀ i, ib z i = (ib x i || ib y i)) :
    Calls Try.prog 60 #[.agg #[.bool na, .slice A n c], .agg #[.bool nb, .slice A' n' c']] w (AnsPost w z (codeOf E z)) := by
  have h := Or_any na nb hs ht (by omega) (by omega) hx hy hz
  rw [lng_ival hx, lng_ival hy, codeOf_err, hE] at h
  exact h.mono fun _ _ h => h.ans
theorem Xor_we (hE : err (tooLong x || tooLong y) = E) (hs : SlU w w.heap.size A n c l) (ht : SlU w w.heap.size A' n' c' m) (hn : n ≤ 1048576) (hn' : n' ≤ 1048576) (hx : ival na l = x) (hy : ival nb m = y) (hz : ∀ i, ib z i = (ib x i ^^ ib y i)) :
    Calls Try.prog 61 #[.agg #[.bool na, .slice A n c], .agg #[.bool nb, .slice A' n' c']] w (AnsPost w z (codeOf E z)) := by
  have h := Xor_any na nb hs ht (by omega) (by omega) hx hy hz
  rw [lng_ival hx, lng_ival hy, codeOf_err, hE] at h
  exact h.mono fun _ _ h => h.ans
theorem Not_we (hE : err (tooLong x || tooLong x) = E) (hs : SlU w w.heap.size A n c l) (hn : n ≤ 1048576) (hx : ival na l = x) (hz : -1 - x = z) :
    Calls Try.prog 62 #[.agg #[.bool na, .slice A n c]] w (AnsPost w z (codeOf E z)) := by
  have h := Not_any na hs (by omega) hx hz
  rw [lng_ival hx, codeOf_err] at h
  rw [Bool.or_self] at hE
  rw [hE] at h
  exact h.mono fun _ _ h => h.ans
variable (hs2 : SlI w w.heap.size A (digs 2 x.natAbs).length c (digs 2 x.natAbs)) (ht2 : SlI w w.heap.size A' (digs 2 y.natAbs).length c' (digs 2 y.natAbs)) (hn2 : (digs 2 x.natAbs).length ≤ 33554432) (hn2' : (digs 2 y.natAbs).length ≤ 33554432)
include hs2 ht2 hn2 hn2'
theorem Bw_and (hz : ∀ i, ib z i = (ib x i && ib y i)) :
    Calls Try.prog 63 #[.agg #[.bool (decide (x < 0)), .slice A (digs 2 x.natAbs).length c], .agg #[.bool (decide (y < 0)), .slice A' (digs 2 y.natAbs).length c'], .agg #[.int .i64 0, .int .i64 0, .int .i64 0, .int .i64 1]] w (PostB w z) :=
  Bitwise_any (f := fun p q => p && q) rfl rfl rfl rfl hs2 ht2 (Nat.le_refl _) (Nat.le_refl _) hn2 hn2' hz
theorem Bw_or (hz : ∀ i, ib z i = (ib x i || ib y i)) :
    Calls Try.prog 63 #[.agg #[.bool (decide (x < 0)), .slice A (digs 2 x.natAbs).length c], .agg #[.bool (decide (y < 0)), .slice A' (digs 2 y.natAbs).length c'], .agg #[.int .i64 0, .int .i64 1, .int .i64 1, .int .i64 1]] w (PostB w z) :=
  Bitwise_any (f := fun p q => p || q) rfl rfl rfl rfl hs2 ht2 (Nat.le_refl _) (Nat.le_refl _) hn2 hn2' hz
theorem Bw_xor (hz : ∀ i, ib z i = (ib x i ^^ ib y i)) :
    Calls Try.prog 63 #[.agg #[.bool (decide (x < 0)), .slice A (digs 2 x.natAbs).length c], .agg #[.bool (decide (y < 0)), .slice A' (digs 2 y.natAbs).length c'], .agg #[.int .i64 0, .int .i64 1, .int .i64 1, .int .i64 0]] w (PostB w z) :=
  Bitwise_any (f := fun p q => p ^^ q) rfl rfl rfl rfl hs2 ht2 (Nat.le_refl _) (Nat.le_refl _) hn2 hn2' hz
theorem Bw_not (hz : -1 - x = z) :
    Calls Try.prog 63 #[.agg #[.bool (decide (x < 0)), .slice A (digs 2 x.natAbs).length c], .agg #[.bool (decide (y < 0)), .slice A' (digs 2 y.natAbs).length c'], .agg #[.int .i64 1, .int .i64 1, .int .i64 0, .int .i64 0]] w (PostB w z) :=
  Bitwise_any (f := fun p _ => !p) rfl rfl rfl rfl hs2 ht2 (Nat.le_refl _) (Nat.le_refl _) hn2 hn2' (fun i => by rw [← hz, ib_not])
end
end Go.Proofs.Ytggdmhkdmkldoaa
