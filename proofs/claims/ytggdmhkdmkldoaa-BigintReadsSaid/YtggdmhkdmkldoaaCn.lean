import Derived.Test.YtggdmhkdmkldoaaCm
namespace Go.Proofs.Ytggdmhkdmkldoaa
open Go.RowKit Hb

/-! ### the calls of a law, by what the integers are -/
theorem lng_ival {neg : Bool} {l : List Nat} {z : Int} (h : ival neg l = z) : lng l = tooLong z := by
  rw [lng, tooLong, ← h, ival_natAbs]
section
variable {w : World} {A A' : Option Addr} {n c n' c' : Nat} {l m : List Nat} {na nb : Bool} {x y z : Int}
theorem Add_z (hs : SlU w w.heap.size A n c l) (ht : SlU w w.heap.size A' n' c' m) (hn : n ≤ 1000) (hn' : n' ≤ 1000) (hx : ival na l = x) (hy : ival nb m = y) (hz : x + y = z) (t1 : tooLong x = false) (t2 : tooLong y = false) (t3 : tooLong z = false) :
    Calls Try.prog 47 #[.agg #[.bool na, .slice A n c], .agg #[.bool nb, .slice A' n' c']] w (PostR w z 0) := by
  have h := Add_any na nb hs ht (by omega) (by omega) (Nat.le_refl _) (Nat.le_refl _)
  rw [hx, hy, hz, lng_ival hx, lng_ival hy, t1, t2, t3] at h
  exact h.mono fun _ _ h => h.ok_ rfl
theorem Sub_z (hs : SlU w w.heap.size A n c l) (ht : SlU w w.heap.size A' n' c' m) (hn : n ≤ 1000) (hn' : n' ≤ 1000) (hx : ival na l = x) (hy : ival nb m = y) (hz : x - y = z) (t1 : tooLong x = false) (t2 : tooLong y = false) (t3 : tooLong z = false) :
    Calls Try.prog 50 #[.agg #[.bool na, .slice A n c], .agg #[.bool nb, .slice A' n' c']] w (PostR w z 0) := by
  have h := Sub_any na nb hs ht (by omega) (by omega) (Nat.le_refl _) (Nat.le_refl _)
  rw [hx, hy, hz, lng_ival hx, lng_ival hy, t1, t2, t3] at h
  exact h.mono fun _ _ h => h.ok_ rfl
theorem Mul_z (hs : SlU w w.heap.size A n c l) (ht : SlU w w.heap.size A' n' c' m) (hn : n ≤ 1000) (hn' : n' ≤ 1000) (hx : ival na l = x) (hy : ival nb m = y) (hz : x * y = z) (t1 : tooLong x = false) (t2 : tooLong y = false) (t3 : tooLong z = false) :
    Calls Try.prog 46 #[.agg #[.bool na, .slice A n c], .agg #[.bool nb, .slice A' n' c']] w (PostR w z 0) := by
  have h := Mul_any na nb hs ht (by omega) (Nat.le_refl _) (Nat.le_refl _)
  rw [hx, hy, hz, lng_ival hx, lng_ival hy, t1, t2, t3] at h
  exact h.mono fun _ _ h => h.ok_ rfl
theorem Cmp_z (hs : SlU w w.heap.size A n c l) (ht : SlU w w.heap.size A' n' c' m) (hx : ival na l = x) (hy : ival nb m = y) :
    Calls Try.prog 32 #[.agg #[.bool na, .slice A n c], .agg #[.bool nb, .slice A' n' c']] w (CmpZPost (cmpZ x y) w) := by
  have h := Cmp_any na nb hs ht (Nat.le_refl _) (Nat.le_refl _)
  rw [hx, hy] at h
  exact h
theorem Sign_z (hs : SlU w w.heap.size A n c l) (hx : ival na l = x) :
    Calls Try.prog 42 #[.agg #[.bool na, .slice A n c]] w (CmpZPost x.sign w) := by
  have h := sign_any na hs (Nat.le_refl _)
  rw [hx] at h
  exact h
theorem Sign_zk {k : Int} (hs : SlU w w.heap.size A n c l) (hx : ival na l = x) (hk : x.sign = k) :
    Calls Try.prog 42 #[.agg #[.bool na, .slice A n c]] w (CmpZPost k w) := by
  rw [← hk]; exact Sign_z hs hx
theorem Cmp_zk {k : Int} (hs : SlU w w.heap.size A n c l) (ht : SlU w w.heap.size A' n' c' m) (hx : ival na l = x) (hy : ival nb m = y) (hk : cmpZ x y = k) :
    Calls Try.prog 32 #[.agg #[.bool na, .slice A n c], .agg #[.bool nb, .slice A' n' c']] w (CmpZPost k w) := by
  rw [← hk]; exact Cmp_z hs ht hx hy
theorem same_z (hs : SlU w w.heap.size A n c l) (ht : SlU w w.heap.size A' n' c' m) (hx : ival na l = x) (hy : ival nb m = x) :
    Calls Try.prog 48 #[.agg #[.bool na, .slice A n c], .int .i64 0, .agg #[.bool nb, .slice A' n' c'], .int .i64 0] w (SamePost true w) := by
  have h := same_any na nb hs ht (Nat.le_refl _) (Nat.le_refl _) 0 0
  rw [hx, hy, decide_eq_true rfl, decide_eq_true rfl] at h
  exact h
end
theorem sign_cmp (x y : Int) : (x - y).sign = cmpZ x y := by
  unfold cmpZ
  split
  · exact Int.sign_eq_neg_one_of_neg (by omega)
  · split
    · exact Int.sign_eq_one_of_pos (by omega)
    · rw [show x - y = 0 by omega]; rfl
/-- the lowest limbs: what few hands back -/
def FewQ (w : World) (neg : Bool) (l1 : List Nat) (m1 : Nat) (e : Ending) (w' : World) : Prop :=
  ∃ A c, e = .returned (.agg #[.bool neg, .slice A m1 c]) ∧ OwnU w' w.heap.size A m1 c (u32s l1) ∧ Below w.heap.size w w'
theorem few_q {neg : Bool} {A : Option Addr} {l : List Nat} {n c : Nat} (k : Nat) (hk : k ≤ 1000) (hA : A = none → c = 0) {w0 : World} (hs : SlU w0 w0.heap.size A n c l) :
    ∃ l1 m1, l1.length = m1 ∧ m1 ≤ k ∧ Dig W l1 ∧ ∀ w, SlU w w.heap.size A n c l → Calls Try.prog 31 #[.agg #[.bool neg, .slice A n c], .int .i64 (k : Int)] w (FewQ w neg l1 m1) :=
  ⟨l.take (min k n), min k n, by rw [List.length_take, hs.len]; omega, by omega, hs.dig.take _, fun w h => few_any neg h hA (Nat.le_refl _) k hk⟩
theorem add_bnd {x y : Int} {k : Nat} (hx : x.natAbs < 2 ^ k) (hy : y.natAbs < 2 ^ k) : (x + y).natAbs < 2 ^ (k + 1) := by
  have : (x + y).natAbs ≤ x.natAbs + y.natAbs := Int.natAbs_add_le x y
  rw [Nat.pow_succ]; omega
theorem sub_bnd {x y : Int} {k : Nat} (hx : x.natAbs < 2 ^ k) (hy : y.natAbs < 2 ^ k) : (x - y).natAbs < 2 ^ (k + 1) := by
  have : (x - y).natAbs ≤ x.natAbs + y.natAbs := Int.natAbs_sub_le x y
  rw [Nat.pow_succ]; omega
theorem mul_bnd {x y : Int} {j k : Nat} (hx : x.natAbs < 2 ^ j) (hy : y.natAbs < 2 ^ k) : (x * y).natAbs < 2 ^ (j + k) := by
  rw [Int.natAbs_mul, Nat.pow_add]
  exact Nat.mul_lt_mul'' hx hy
theorem few_bnd {neg : Bool} {l : List Nat} {k m : Nat} (hd : Dig W l) (hl : l.length = m) (hm : m ≤ k) : (ival neg l).natAbs < 2 ^ (32 * k) := by
  rw [← W_pow_eq]
  exact ival_lt hd (by omega)
/-! ### the variables at the beginning: the arguments, boxed -/
theorem Sl_block {w : World} {B : Nat} {A : Option Addr} {n c : Nat} {l : List Nat} (hs : SlU w B A n c l) : l ≠ [] → ∀ b o, A = some ⟨b, o, none⟩ → b < B := by
  intro hne b o e
  obtain ⟨b', o', h1, h2, _⟩ := hs.rd (u32s_ne (List.length_pos_iff.2 hne))
  rw [h1] at e
  injection e with e; injection e with e1 e2; omega
theorem Env.box {w0 w : World} {vs : List VE} (h : Env w0 w vs) (hold : Old w vs) {neg : Bool} {A : Option Addr} {n c : Nat} {l : List Nat} (hs : SlU w0 w0.heap.size A n c l) {g : Nat} (hg : w.heap.size = g) :
    Env w0 (w.alloc (.cells #[.bool neg, .slice A n c] 24)) (⟨g, neg, A, n, c, l⟩ :: vs) ∧ Old (w.alloc (.cells #[.bool neg, .slice A n c] 24)) (⟨g, neg, A, n, c, l⟩ :: vs) := by
  subst hg
  have hz := h.1.size
  have hO := Sl_block hs
  refine ⟨h.push (SlU.to hs h.1 (Nat.le_refl _)) (fun hne u hu b o e => ?_) (fun hne b o e => Nat.lt_of_lt_of_le (hO hne b o e) hz) hold, fun v hv hne b o e => ?_⟩
  · have h1 := hO hne b o e
    have h2 := (h.2.1 u hu).1
    omega
  · have hz2 : (w.alloc (.cells #[.bool neg, .slice A n c] 24)).heap.size = w.heap.size + 1 := by simp
    rcases List.mem_cons.1 hv with rfl | hv
    · have := hO hne b o e; omega
    · have := hold v hv hne b o e; omega
theorem Old.nil (w : World) : Old w [] := fun v hv => (by cases hv)
end Go.Proofs.Ytggdmhkdmkldoaa
