import Derived.Test.YtggdmhkdmkldoaaCa
import Derived.Test.YtggdmhkdmkldoaaCg
import Derived.Deep.DeepCutAuto
import Derived.Deep.CutBlock
namespace Go.Proofs.Ytggdmhkdmkldoaa
open Go.RowKit Hb

theorem tooLong_lt {z : Int} (k : Nat) (hk : k ≤ 4096) (h : z.natAbs < 2 ^ k) : tooLong z = false := by
  rw [tooLong_iff]
  exact decide_eq_false (Classical.not_not.2 (Nat.lt_of_lt_of_le h (Nat.pow_le_pow_right (n := 2) (i := k) (j := 4096) (by decide) hk)))
theorem Own.int {w : World} {B c : Nat} {A : Option Addr} {z : Int} (ho : OwnU w B A (digs W z.natAbs).length c (u32s (digs W z.natAbs))) : SlU w w.heap.size A (digs W z.natAbs).length c (digs W z.natAbs) :=
  Own.sl ho (dig_digs (by decide) _) rfl
theorem lng_int {z : Int} (h : tooLong z = false) : lng (digs W z.natAbs) = false := by rw [lng_digs]; exact h
/-- an integer and a code, the integer as it is -/
def PostR (w : World) (z : Int) (code : Int) (e : Ending) (w' : World) : Prop :=
  ∃ v, e = .returned (.tuple #[v, .int .i64 code]) ∧ ResI w' w.heap.size v z ∧ Below w.heap.size w w'
theorem PostC.toR {w w' : World} {z co : Int} {e : Ending} (h : PostC w z co e w') : PostR w (if co = 0 then z else 0) co e w' := by
  obtain ⟨v, h1, h2, h3, h4⟩ := h
  refine ⟨v, h1, ?_, h4⟩
  by_cases hc : co = 0
  · rw [if_pos hc]; exact h2 hc
  · rw [if_neg hc, h3 hc]; exact ResI.zero _ _
theorem PostC.ok_ {w w' : World} {z : Int} {e : Ending} {co : Int} (h : PostC w z co e w') (hco : co = 0) : PostR w z 0 e w' := by
  have := h.toR
  subst hco
  rwa [if_pos rfl] at this
theorem from_lit {x k : Int} (hx : x = k) (h1 : -9223372036854775808 ≤ k) (h2 : k ≤ 9223372036854775807) (w : World) : Calls Try.prog 38 #[.int .i64 k] w (PostI w x) := by
  subst hx; exact from_any x w h1 h2
/-- two integers of the call's own that are what DivMod is to hand back -/
theorem dm_own {w : World} {B B' c c' : Nat} {A A' : Option Addr} {x y : Int} (h1 : OwnU w B A (digs W x.natAbs).length c (u32s (digs W x.natAbs))) (h2 : OwnU w B' A' (digs W y.natAbs).length c' (u32s (digs W y.natAbs))) (ht1 : tooLong x = false) (ht2 : tooLong y = false)
    {z1 z2 co : Int} (e1 : dvD x y = z1) (e2 : dvM x y = z2) (e3 : dvCode false x y = co) :
    Calls Try.prog 21 #[.agg #[.bool (decide (x < 0)), .slice A (digs W x.natAbs).length c], .agg #[.bool (decide (y < 0)), .slice A' (digs W y.natAbs).length c']] w (QRPost w z1 z2 co) := by
  have h := DivMod_any (decide (x < 0)) (decide (y < 0)) (Own.int h1) (Own.int h2) (by have := not_too_len ht1; omega) (by have := not_too_len ht2; omega) (Nat.le_refl _) (Nat.le_refl _)
  rw [ival_digs, ival_digs, lng_int ht1, lng_int ht2, e1, e2, Bool.or_false, e3] at h
  exact h
theorem aw_dv : dvD (-7) 2 = -4 ∧ dvM (-7) 2 = 1 ∧ dvCode false (-7) 2 = 0 := by
  have h1 : dvD (-7) 2 = -4 := by decide
  refine ⟨h1, by decide, ?_⟩
  rw [dvCode, if_neg (by simp), if_neg (by decide), h1, tooLong_lt 3 (by decide) (by decide)]; rfl

theorem Pow_own {w : World} {B c : Nat} {A : Option Addr} {x z : Int} (k : Int) (h1 : OwnU w B A (digs W x.natAbs).length c (u32s (digs W x.natAbs))) (ht : tooLong x = false) (e1 : x ^ k.toNat = z) (e2 : pwCode false x k = 0) :
    Calls Try.prog 54 #[.agg #[.bool (decide (x < 0)), .slice A (digs W x.natAbs).length c], .int .i64 k] w (PostR w z 0) := by
  have h := Pow_any (decide (x < 0)) (Own.int h1) (by have := not_too_len ht; omega) (Nat.le_refl _) k
  rw [ival_digs, lng_int ht, e1, e2] at h
  exact h.mono fun _ _ h => h.ok_ rfl
theorem Text_own {w : World} {B c : Nat} {A : Option Addr} {x : Int} (r : Int) (h1 : OwnU w B A (digs W x.natAbs).length c (u32s (digs W x.natAbs))) (ht : tooLong x = false) {s : ByteArray} {co : Int} (e1 : strN (tList false (decide (x < 0)) x.natAbs r) = s) (e2 : tCode false r = co) :
    Calls Try.prog 29 #[.agg #[.bool (decide (x < 0)), .slice A (digs W x.natAbs).length c], .int .i64 r] w fun e w' => e = .returned (.tuple #[.string s, .int .i64 co]) ∧ Below w.heap.size w w' := by
  have h := Text_any (decide (x < 0)) (Own.int h1) (by have := not_too_len ht; omega) (Nat.le_refl _) r
  rw [lng_int ht, nv_digs (by decide)] at h
  exact h.mono fun _ _ h => by rw [TextPost, e1, e2] at h; exact h
theorem To_own {w : World} {B c : Nat} {A : Option Addr} {x k : Int} (h1 : OwnU w B A (digs W x.natAbs).length c (u32s (digs W x.natAbs))) (hk : x = k) (h2 : -9223372036854775808 ≤ k ∧ k ≤ 9223372036854775807) :
    Calls Try.prog 40 #[.agg #[.bool (decide (x < 0)), .slice A (digs W x.natAbs).length c]] w fun e w' => e = .returned (.tuple #[.int .i64 k, .bool true]) ∧ Below w.heap.size w w' := by
  subst hk
  have h := to_any (decide (x < 0)) (Own.int h1) (Nat.le_refl _)
  rw [ival_digs] at h
  obtain ⟨g1, g2⟩ := toV_ok h2
  exact h.mono fun _ _ h => by rw [ToPost, g1, g2] at h; exact h
theorem Sign_own {w : World} {B c : Nat} {A : Option Addr} {x k : Int} (h1 : OwnU w B A (digs W x.natAbs).length c (u32s (digs W x.natAbs))) (hk : x.sign = k) :
    Calls Try.prog 42 #[.agg #[.bool (decide (x < 0)), .slice A (digs W x.natAbs).length c]] w fun e w' => e = .returned (.int .i64 k) ∧ Below w.heap.size w w' := by
  have h := sign_own h1
  rw [hk] at h
  exact h
theorem Bits_own {w : World} {B c : Nat} {A : Option Addr} {x : Int} {k : Nat} (h1 : OwnU w B A (digs W x.natAbs).length c (u32s (digs W x.natAbs))) (ht : tooLong x = false) (hk : blen x.natAbs = k) :
    Calls Try.prog 45 #[.agg #[.bool (decide (x < 0)), .slice A (digs W x.natAbs).length c]] w fun e w' => e = .returned (.int .i64 (k : Int)) ∧ Below w.heap.size w w' := by
  have h := bits_any (decide (x < 0)) (Own.int h1) (by have := not_too_len ht; omega) (Nat.le_refl _)
  rw [nv_digs (by decide), hk] at h
  exact h
theorem Cmp_own {w : World} {B B' c c' : Nat} {A A' : Option Addr} {x y k : Int} (h1 : OwnU w B A (digs W x.natAbs).length c (u32s (digs W x.natAbs))) (h2 : OwnU w B' A' (digs W y.natAbs).length c' (u32s (digs W y.natAbs))) (hk : cmpZ x y = k) :
    Calls Try.prog 32 #[.agg #[.bool (decide (x < 0)), .slice A (digs W x.natAbs).length c], .agg #[.bool (decide (y < 0)), .slice A' (digs W y.natAbs).length c']] w (CmpZPost k w) := by
  have h := Cmp_any (decide (x < 0)) (decide (y < 0)) (Own.int h1) (Own.int h2) (Nat.le_refl _) (Nat.le_refl _)
  rw [ival_digs, ival_digs, hk] at h
  exact h
theorem aw_pow : (2 : Int) ^ (100 : Int).toNat = 1267650600228229401496703205376 ∧ pwCode false 2 100 = 0 := by
  have h1 : (2 : Int) ^ (100 : Int).toNat = 1267650600228229401496703205376 := by decide +kernel
  refine ⟨h1, ?_⟩
  rw [pwCode, if_neg (by simp), if_neg (by decide), h1, tooLong_lt 101 (by decide) (by decide +kernel)]; rfl
theorem aw_bits : blen 1267650600228229401496703205376 = 101 := blen_eq_of (k := 100) (by decide +kernel) (by decide +kernel)
theorem aw_parse : pVal [45, 48, 48, 102, 102] 16 = -255 ∧ pCode [45, 48, 48, 102, 102] 16 = 0 := by
  have h1 : pVal [45, 48, 48, 102, 102] 16 = -255 := by decide +kernel
  refine ⟨h1, ?_⟩
  rw [pCode, if_neg (by decide), if_neg (by decide +kernel), h1, tooLong_lt 8 (by decide) (by decide)]; rfl
end Go.Proofs.Ytggdmhkdmkldoaa
