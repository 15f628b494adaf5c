import Derived.Test.YtggdmhkdmkldoaaUb
namespace Go.Proofs.Ytggdmhkdmkldoaa
open Go.RowKit Hb
set_option linter.unusedVariables false
set_option linter.unusedSimpArgs false

/-! ### the calls of the law of forms -/
section
variable {w : World} {A A' : Option Addr} {n c n' c' : Nat} {l m : List Nat} {na nb : Bool} {x y mx : Int}
theorem Norm_w (hs : SlU w w.heap.size A n c l) (hn : n ≤ 1048576) (hx : ival na l = x) : Calls Try.prog 34 #[.agg #[.bool na, .slice A n c]] w (PostI w x) := by
  have h := norm_any na hs (by omega) (Nat.le_refl _); rwa [hx] at h
theorem Neg_w (hs : SlU w w.heap.size A n c l) (hn : n ≤ 1048576) (hx : ival na l = x) (hm : -x = mx) : Calls Try.prog 36 #[.agg #[.bool na, .slice A n c]] w (PostI w mx) := by
  have h := neg_any na hs (by omega) (Nat.le_refl _)
  rwa [show ival (!na) l = mx by rw [← hm, ← hx]; unfold ival; cases na <;> simp] at h
theorem Int_w (hs : SlI w w.heap.size A (digs 2 x.natAbs).length c (digs 2 x.natAbs)) (hn : (digs 2 x.natAbs).length ≤ 33554432) :
    Calls Try.prog 35 #[.agg #[.bool (decide (x < 0)), .slice A (digs 2 x.natAbs).length c]] w (PostI w x) :=
  Int_raw _ hs (nrm_digs (by decide) _) (by omega) (Nat.le_refl _) (by rw [nv_digs (by decide)]) rfl
theorem Int_m (hm : -x = mx) (hs : SlI w w.heap.size A (digs 2 x.natAbs).length c (digs 2 x.natAbs)) (hn : (digs 2 x.natAbs).length ≤ 33554432) :
    Calls Try.prog 35 #[.agg #[.bool (decide (mx < 0)), .slice A (digs 2 x.natAbs).length c]] w (PostI w mx) :=
  Int_raw _ hs (nrm_digs (by decide) _) (by omega) (Nat.le_refl _) (by rw [nv_digs (by decide)]; omega) rfl
theorem Same_w {B B' : Nat} (h1 : OwnU w B A (digs W x.natAbs).length c (u32s (digs W x.natAbs))) (h2 : OwnU w B' A' (digs W x.natAbs).length c' (u32s (digs W x.natAbs))) :
    Calls Try.prog 33 #[.agg #[.bool (decide (x < 0)), .slice A (digs W x.natAbs).length c], .agg #[.bool (decide (x < 0)), .slice A' (digs W x.natAbs).length c']] w fun e w' => e = .returned (.bool true) ∧ Below w.heap.size w w' :=
  rsame_true _ (h1.sl (dig_digs (by decide) _) rfl) (h2.sl (dig_digs (by decide) _) rfl) (Nat.le_refl _) (Nat.le_refl _)
def TvPost (w : World) (v : Int) (b : Bool) (e : Ending) (w' : World) : Prop := e = .returned (.tuple #[.int .i64 v, .bool b]) ∧ Below w.heap.size w w'
theorem To_w {v : Int} {b : Bool} (hs : SlU w w.heap.size A n c l) (hx : ival na l = x) (h1 : toV x = v) (h2 : toB x = b) : Calls Try.prog 40 #[.agg #[.bool na, .slice A n c]] w (TvPost w v b) := by
  have h := to_any na hs (Nat.le_refl _); rw [hx] at h; subst h1; subst h2; exact h
theorem To_k {B : Nat} (h1 : OwnU w B A (digs W x.natAbs).length c (u32s (digs W x.natAbs))) (hk : -9223372036854775808 ≤ x ∧ x ≤ 9223372036854775807) : Calls Try.prog 40 #[.agg #[.bool (decide (x < 0)), .slice A (digs W x.natAbs).length c]] w (TvPost w x true) :=
  To_w (h1.sl (dig_digs (by decide) _) rfl) (ival_digs x) (toV_ok hk).2 (toV_ok hk).1
theorem rTo_w {v : Int} {b : Bool} (hs : SlI w w.heap.size A (digs 2 x.natAbs).length c (digs 2 x.natAbs)) (hn : (digs 2 x.natAbs).length ≤ 33554432) (h1 : toV x = v) (h2 : toB x = b) :
    Calls Try.prog 41 #[.agg #[.bool (decide (x < 0)), .slice A (digs 2 x.natAbs).length c]] w (TvPost w v b) := by
  have h := rTo_any hs (Nat.le_refl _) hn; subst h1; subst h2; exact h
def KPost (w : World) (k : Int) (e : Ending) (w' : World) : Prop := e = .returned (.int .i64 k) ∧ Below w.heap.size w w'
theorem Sign_w {k : Int} (hs : SlU w w.heap.size A n c l) (hx : ival na l = x) (hk : x.sign = k) : Calls Try.prog 42 #[.agg #[.bool na, .slice A n c]] w (KPost w k) := by
  have h := sign_any na hs (Nat.le_refl _); rw [hx, hk] at h; exact h
theorem rSign_w {k : Int} (hk : x.sign = k) (A : Option Addr) (c : Nat) (w : World) : Calls Try.prog 43 #[.agg #[.bool (decide (x < 0)), .slice A (digs 2 x.natAbs).length c]] w (KPost w k) := by
  have h := rsign_any x A c w; rw [hk] at h; exact h
theorem Cmp_w {k : Int} (hs : SlU w w.heap.size A n c l) (ht : SlU w w.heap.size A' n' c' m) (hx : ival na l = x) (hy : ival nb m = y) (hk : cmpZ x y = k) :
    Calls Try.prog 32 #[.agg #[.bool na, .slice A n c], .agg #[.bool nb, .slice A' n' c']] w (KPost w k) := by
  have h := Cmp_any na nb hs ht (Nat.le_refl _) (Nat.le_refl _); rw [hx, hy, hk] at h; exact h
theorem rCmp_w {k : Int} (hs : SlI w w.heap.size A (digs 2 x.natAbs).length c (digs 2 x.natAbs)) (ht : SlI w w.heap.size A' (digs 2 y.natAbs).length c' (digs 2 y.natAbs)) (hn : (digs 2 x.natAbs).length ≤ 33554432) (hn' : (digs 2 y.natAbs).length ≤ 33554432) (hk : cmpZ x y = k) :
    Calls Try.prog 44 #[.agg #[.bool (decide (x < 0)), .slice A (digs 2 x.natAbs).length c], .agg #[.bool (decide (y < 0)), .slice A' (digs 2 y.natAbs).length c']] w (KPost w k) :=
  rcmp_any hs ht (Nat.le_refl _) (Nat.le_refl _) hn hn' hk
theorem Bits_w (hs : SlU w w.heap.size A n c l) (hn : n ≤ 1048576) (hx : ival na l = x) : Calls Try.prog 45 #[.agg #[.bool na, .slice A n c]] w (KPost w ((digs 2 x.natAbs).length : Nat)) := by
  have h := bits_any na hs (by omega) (Nat.le_refl _)
  rw [show blen (nv W l) = (digs 2 x.natAbs).length by rw [← hx, ival_natAbs]; rfl] at h
  exact h
end
theorem small_le {k : Int} (hk : -9223372036854775808 ≤ k ∧ k ≤ 9223372036854775807) : (digs 2 k.natAbs).length ≤ 33554432 :=
  Nat.le_trans (digs_length_le (b := 2) (k := 64) (by decide) (by have : (2 : Nat) ^ 64 = 18446744073709551616 := by decide
                                                                  omega)) (by decide)
end Go.Proofs.Ytggdmhkdmkldoaa
