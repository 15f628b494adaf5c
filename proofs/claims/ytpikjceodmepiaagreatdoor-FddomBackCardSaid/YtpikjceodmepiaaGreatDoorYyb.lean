import Derived.Test.YtpikjceodmepiaaGreatDoorYzb
import Derived.Shelf.Small.Bits
import Derived.Test.YtpikjceodmepiaaGreatDoorRows
import Derived.Test.YtpikjceodmepiaaGreatDoorMathb
import Derived.WalkKit
import Derived.Deep.QuietTactic
import Derived.BigQuiet
import Derived.Deep.RegionHeld3
import Derived.Deep.DrawnRows
import Derived.Deep.DeepCutAuto
import Derived.Deep.CutBlock
import Derived.Test.YtpikjceodmepiaaGreatDoorRegb
import Derived.Laws.BytesArg
import Derived.Laws.AppendOwnNone
import Derived.ProofKit
import Derived.OpenShut
import Derived.JoinedCond
import Derived.JoinedOf
import Derived.JoinedAt
import Derived.ChangeSame
import Derived.ChangeSlices
import Derived.RowKit3
import Derived.Carry
import Derived.Lib.SmallJoins
import Derived.Deep.LoopGhost
import Derived.Maps.AppendAt
import Derived.IntWalk
set_option linter.unusedVariables false
set_option linter.unusedSimpArgs false
namespace Go.Proofs.YtpikjceodmepiaaGreatDoor
open Go.RowKit Hb
abbrev OwnI := Own 3
end Go.Proofs.YtpikjceodmepiaaGreatDoor
namespace Go.Proofs.YtpikjceodmepiaaGreatDoor
open Go.RowKit Hb
abbrev UBu := UB 101
/-- at the head of the loop that takes q times v from the row -/
def TakeRel (w : World) (g k _n q : Nat) (L vl : List Nat) (i : Nat) (bv cv : Value) (wr : World) : Prop :=
  ∃ (L' : List Nat) (bb cc : Nat), bv = .int .u64 (bb : Int) ∧ cv = .int .u64 (cc : Int) ∧ bb ≤ 1 ∧ cc < 4294967296 ∧ L'.length = L.length ∧ Dig W L' ∧ L'.take k = L.take k ∧ L'.drop (k + i) = L.drop (k + i) ∧
    nvp W (L'.drop k) i + q * nvp W vl i = nvp W (L.drop k) i + W ^ i * (cc + bb) ∧ UBu wr g L' ∧ w.grownBy wr (some g)
theorem take_set_lo {L : List Nat} {k p v : Nat} (h : k ≤ p) : (L.set p v).take k = L.take k := by
  rw [List.take_set]; exact List.set_eq_of_length_le (by rw [List.length_take]; omega)
theorem drop_set_hi {L : List Nat} {k p v : Nat} (h : p < k) : (L.set p v).drop k = L.drop k := by rw [List.drop_set, if_pos h]
theorem drop_set_in {L : List Nat} {k i v : Nat} : (L.set (k + i) v).drop k = (L.drop k).set i v := by rw [List.drop_set, if_neg (by omega)]; congr 1; omega
theorem nvp_set_hi {b : Nat} {l : List Nat} {i v : Nat} : nvp b (l.set i v) i = nvp b l i := by unfold nvp; rw [take_set_lo (Nat.le_refl _)]
theorem nvp_set_at {b : Nat} {l : List Nat} {i v : Nat} (h : i < l.length) : nvp b (l.set i v) (i + 1) = nvp b l i + b ^ i * v := by
  rw [nvp_succ, nvp_set_hi, List.getD_eq_getElem?_getD, List.getElem?_set_self h]; rfl
theorem getD_drop (L : List Nat) (k i : Nat) : (L.drop k).getD i 0 = L.getD (k + i) 0 := by
  rw [List.getD_eq_getElem?_getD, List.getD_eq_getElem?_getD, List.getElem?_drop]
theorem getD_of_drop {L L' : List Nat} {p : Nat} (h : L'.drop p = L.drop p) : L'.getD p 0 = L.getD p 0 := by
  have := congrArg (fun l => l.getD 0 0) h
  simpa [getD_drop] using this
theorem drop_more {L L' : List Nat} {p q : Nat} (h : L'.drop p = L.drop p) (hq : p ≤ q) : L'.drop q = L.drop q := by
  obtain ⟨r, rfl⟩ : ∃ r, q = p + r := ⟨q - p, by omega⟩
  rw [← List.drop_drop, ← List.drop_drop, h]
/-- the limb that is left, and what is owed -/
theorem take_num {d p bb t : Nat} (hd : d < 4294967296) (hb : bb ≤ 1) (ht : IntKind.u64.wrap (IntKind.u64.wrap ((d : Int) - (p : Int) % 4294967296) - (bb : Int)) = (t : Int)) :
    t % 4294967296 + p % 4294967296 + bb = d + 4294967296 * (t / 9223372036854775808) ∧ t / 9223372036854775808 ≤ 1 ∧ t < 18446744073709551616 := by
  rw [IntKind.wrap_u64, IntKind.wrap_u64] at ht
  omega
theorem take_step {b k v c x q d X Y p s bb b' : Nat} (h : v + q * Y = X + b ^ k * (c + bb)) (hp : p = q * x + c) (hs : s + p % b + bb = d + b * b') :
    (v + b ^ k * s) + q * (Y + b ^ k * x) = (X + b ^ k * d) + b ^ (k + 1) * (p / b + b') := by
  have h2 := Nat.mod_add_div p b
  have h3 : b ^ k * (s + p % b + bb) = b ^ k * (d + b * b') := by rw [hs]
  have h4 : b ^ k * (p % b + b * (p / b)) = b ^ k * (q * x + c) := by rw [h2, hp]
  rw [pow_succ_mul]
  simp only [Nat.mul_add] at h h3 h4 ⊢
  rw [Nat.mul_left_comm q (b ^ k) x]
  omega
theorem TakeRel.facts {w wr : World} {g k n q i : Nat} {L vl : List Nat} {bv cv : Value} (h : TakeRel w g k n q L vl i bv cv wr) (hk : k + n + 1 ≤ L.length) (hi : i ≤ n) :
    ∃ bb cc d : Nat, bv = .int .u64 (bb : Int) ∧ cv = .int .u64 (cc : Int) ∧ bb ≤ 1 ∧ cc < 4294967296 ∧ d < 4294967296 ∧ L.getD (k + i) 0 = d ∧ wr.cell? ⟨g, k + i, none⟩ = some (.int .u32 (d : Int)) ∧ wr.frozen? ⟨g, k + i, none⟩ = false ∧ w.grownBy wr (some g) ∧
      (∀ x t p : Nat, i < n → vl.getD i 0 = x → x < 4294967296 → q < 4294967296 → q * x + cc = p → IntKind.u64.wrap (IntKind.u64.wrap ((d : Int) - (p : Int) % 4294967296) - (bb : Int)) = (t : Int) →
        TakeRel w g k n q L vl (i + 1) (.int .u64 ((t / 9223372036854775808 : Nat) : Int)) (.int .u64 ((p / 4294967296 : Nat) : Int)) (wr.setCell ⟨g, k + i, none⟩ (.int .u32 ((t % 4294967296 : Nat) : Int)))) := by
  obtain ⟨L', bb, cc, rfl, rfl, hb, hc, h1, h2, h3, h4, h5, h6, h7⟩ := h
  have hg := getD_of_drop h4
  refine ⟨bb, cc, L'.getD (k + i) 0, rfl, rfl, hb, hc, h2.getD (by decide) _, hg.symm, h6.cell (by omega), h6.frozen _, h7, ?_⟩
  rintro x t p hin rfl hx hq rfl ht
  have hd : L'.getD (k + i) 0 < 4294967296 := h2.getD (by decide) _
  obtain ⟨e1, e2, e3⟩ := take_num hd hb ht
  have hml := (mul_lt (c := cc) hq hx (show 0 < 4294967296 by decide) hc).2
  refine ⟨L'.set (k + i) (t % 4294967296), _, _, rfl, rfl, e2, by simpa using hml, by simpa using h1, h2.set (Nat.mod_lt _ (by decide)) _, by rw [take_set_lo (by omega)]; exact h3, ?_, ?_, h6.set_ _ _, gb_setCell h7 _ _⟩
  · rw [drop_set_hi (by omega)]; exact drop_more h4 (by omega)
  · rw [drop_set_in, nvp_set_at (by rw [List.length_drop]; omega), nvp_succ, nvp_succ, getD_drop, ← hg]
    exact take_step h5 rfl e1
/-- the block while one row of it is turned -/
def RowSt (w : World) (g k n : Nat) (L L2 : List Nat) (wr : World) : Prop :=
  L2.length = L.length ∧ Dig W L2 ∧ L2.take k = L.take k ∧ L2.drop (k + n + 1) = L.drop (k + n + 1) ∧ UBu wr g L2 ∧ w.grownBy wr (some g)
/-- at the head of the loop that adds it back -/
def BackRel (w : World) (g k n : Nat) (L L2 vl : List Nat) (i : Nat) (cv : Value) (wr : World) : Prop :=
  ∃ (L3 : List Nat) (c : Nat), cv = .int .u32 (c : Int) ∧ c ≤ 1 ∧ RowSt w g k n L L3 wr ∧ L3.drop (k + i) = L2.drop (k + i) ∧ nvp W (L3.drop k) i + W ^ i * c = nvp W (L2.drop k) i + nvp W vl i
theorem BackRel.facts {w wr : World} {g k n i : Nat} {L L2 vl : List Nat} {cv : Value} (h : BackRel w g k n L L2 vl i cv wr) (hk : k + n + 1 ≤ L.length) (hi : i ≤ n) (hm : Dig W vl) :
    ∃ c d : Nat, cv = .int .u32 (c : Int) ∧ c ≤ 1 ∧ d < 4294967296 ∧ L2.getD (k + i) 0 = d ∧ wr.cell? ⟨g, k + i, none⟩ = some (.int .u32 (d : Int)) ∧ wr.frozen? ⟨g, k + i, none⟩ = false ∧ w.grownBy wr (some g) ∧
      (∀ x : Nat, i < n → vl.getD i 0 = x →
        BackRel w g k n L L2 vl (i + 1) (.int .u32 (((d + x + c) / 4294967296 : Nat) : Int)) (wr.setCell ⟨g, k + i, none⟩ (.int .u32 (((d + x + c) % 4294967296 : Nat) : Int)))) ∧
      (i = n → vl.length = n → ∃ L3, RowSt w g k n L L3 (wr.setCell ⟨g, k + i, none⟩ (.int .u32 (((d + c) % 4294967296 : Nat) : Int))) ∧
        nvp W (L3.drop k) (n + 1) + W ^ (n + 1) * ((d + c) / 4294967296) = nvp W (L2.drop k) (n + 1) + nv W vl) := by
  obtain ⟨L3, c, rfl, hc, ⟨h1, h2, h3, h4, h5, h6⟩, h7, h8⟩ := h
  have hg := getD_of_drop h7
  have hd : L3.getD (k + i) 0 < 4294967296 := h2.getD (by decide) _
  refine ⟨c, L3.getD (k + i) 0, rfl, hc, hd, hg.symm, h5.cell (by omega), h5.frozen _, h6, ?_, ?_⟩
  · rintro x hin rfl
    have hx : vl.getD i 0 < 4294967296 := hm.getD (by decide) _
    refine ⟨L3.set (k + i) ((L3.getD (k + i) 0 + vl.getD i 0 + c) % 4294967296), _, rfl, by omega, ⟨by simpa using h1, h2.set (Nat.mod_lt _ (by decide)) _, by rw [take_set_lo (by omega)]; exact h3, ?_, h5.set_ _ _, gb_setCell h6 _ _⟩, ?_, ?_⟩
    · rw [drop_set_hi (by omega)]; exact h4
    · rw [drop_set_hi (by omega)]; exact drop_more h7 (by omega)
    · rw [drop_set_in, nvp_set_at (by rw [List.length_drop]; omega), nvp_succ, nvp_succ, getD_drop, ← hg]
      exact add_step h8
  · rintro rfl hvl
    refine ⟨L3.set (k + i) ((L3.getD (k + i) 0 + c) % 4294967296), ⟨by simpa using h1, h2.set (Nat.mod_lt _ (by decide)) _, by rw [take_set_lo (by omega)]; exact h3, ?_, h5.set_ _ _, gb_setCell h6 _ _⟩, ?_⟩
    · rw [drop_set_hi (by omega)]; exact h4
    · rw [drop_set_in, nvp_set_at (by rw [List.length_drop]; omega), nvp_succ, getD_drop, ← hg]
      rw [nvp_all (Nat.le_of_eq hvl)] at h8
      have h9 := add_step (x := L3.getD (k + i) 0) (y := 0) h8
      simpa using h9
end Go.Proofs.YtpikjceodmepiaaGreatDoor
namespace Go.Proofs.YtpikjceodmepiaaGreatDoor
open Go.RowKit Hb
/-- at the head of the loop over one limb: j limbs are left -/
def OneRel (w : World) (g y : Nat) (l : List Nat) (N j : Nat) (rv : Value) (wr : World) : Prop :=
  ∃ (o : List Nat) (r : Nat), rv = .int .u32 (r : Int) ∧ r < y ∧ o.length = N ∧ Dig W o ∧ nv W (o.drop j) * y + r = nv W (l.drop j) ∧
    OwnU wr w.heap.size (some ⟨g, 0, none⟩) N N (u32s o) ∧ Below w.heap.size w wr
theorem OneRel.facts {w wr : World} {g y : Nat} {l : List Nat} {N j : Nat} {rv : Value} (h : OneRel w g y l N (j + 1) rv wr) (hj : j < N) (hl : Dig W l) (hlen : l.length = N) (hy : y < 4294967296) (hg : w.heap.size ≤ g) :
    ∃ r x : Nat, rv = .int .u32 (r : Int) ∧ r < y ∧ l.getD j 0 = x ∧ x < 4294967296 ∧ (∃ u, wr.cell? ⟨g, j, none⟩ = some u) ∧ wr.frozen? ⟨g, j, none⟩ = false ∧ Below w.heap.size w wr ∧
      OneRel w g y l N j (.int .u32 (((r * 4294967296 + x) % y : Nat) : Int)) (wr.setCell ⟨g, j, none⟩ (.int .u32 (((r * 4294967296 + x) / y : Nat) : Int))) := by
  obtain ⟨o, r, rfl, hr, h1, h2, h3, h4, h5⟩ := h
  have hx : l.getD j 0 < 4294967296 := hl.getD (by decide) j
  refine ⟨r, l.getD j 0, rfl, hr, rfl, hx, ⟨_, by rw [h4.cell hj, u32s_get (by omega)]⟩, h4.frozen j, h5, ?_⟩
  have hq : (r * 4294967296 + l.getD j 0) / y < 4294967296 := by
    refine Nat.div_lt_of_lt_mul ?_
    have : (r + 1) * 4294967296 ≤ y * 4294967296 := Nat.mul_le_mul_right _ hr
    omega
  refine ⟨o.set j ((r * 4294967296 + l.getD j 0) / y), _, rfl, Nat.mod_lt _ (by omega), by simpa using h1, h2.set hq _, ?_, ?_, h5.setCell hg _⟩
  · have e1 : (o.set j ((r * 4294967296 + l.getD j 0) / y)).drop j = ((r * 4294967296 + l.getD j 0) / y) :: o.drop (j + 1) := by
      rw [List.drop_eq_getElem_cons (by simp; omega), List.getElem_set_self, drop_set_hi (by omega)]
    rw [e1, nv_cons, drop_nv W l (by omega), ← h3]
    have hdm := Nat.div_add_mod' (r * 4294967296 + l.getD j 0) y
    rw [Nat.add_mul, Nat.mul_add, Nat.mul_assoc]
    have e : W * r = r * 4294967296 := Nat.mul_comm _ _
    omega
  · have := h4.set_ j (.int .u32 (((r * 4294967296 + l.getD j 0) / y : Nat) : Int))
    rwa [u32s_set] at this
attribute [local go_sem ↓] Go.wp_at_zero Go.wp_at_succ
end Go.Proofs.YtpikjceodmepiaaGreatDoor
namespace Go.Proofs.YtpikjceodmepiaaGreatDoor
open Go.RowKit Hb
/-- at the head of the loop that shifts the remainder back: the limbs below i are done -/
def DownRel (Bo : Nat) (wb : World) (gu go_ N M s i : Nat) (L o : List Nat) (wr : World) : Prop :=
  ∃ L3 : List Nat, L3.length = N + 1 ∧ Dig W L3 ∧ L3.drop i = L.drop i ∧ nvp W L3 i + W ^ i * (nv W (L.drop i) / 2 ^ s) = nv W L / 2 ^ s ∧
    UBu wr gu L3 ∧ OwnU wr Bo (some ⟨go_, 0, none⟩) (N - M + 1) (N - M + 1) (u32s o) ∧ Below gu wb wr
theorem DownRel.facts {Bo : Nat} {wb wr : World} {gu go_ N M s i : Nat} {L o : List Nat} (h : DownRel Bo wb gu go_ N M s i L o wr) (hs : s < 32) (hL : Dig W L) (hLl : L.length = N + 1) (hi : i < N) (hgg : gu < go_) :
    ∃ x y : Nat, x < 4294967296 ∧ y < 4294967296 ∧ wr.cell? ⟨gu, i, none⟩ = some (.int .u32 (x : Int)) ∧ wr.cell? ⟨gu, i + 1, none⟩ = some (.int .u32 (y : Int)) ∧ wr.frozen? ⟨gu, i, none⟩ = false ∧
      x / 2 ^ s + y * 2 ^ (32 - s) % 4294967296 < 4294967296 ∧
      DownRel Bo wb gu go_ N M s (i + 1) L o (wr.setCell ⟨gu, i, none⟩ (.int .u32 ((x / 2 ^ s + y * 2 ^ (32 - s) % 4294967296 : Nat) : Int))) := by
  obtain ⟨L3, h1, h2, h3, h4, h5, h6, h7⟩ := h
  have hx := getD_of_drop h3
  have hy := getD_of_drop (drop_more h3 (show i ≤ i + 1 by omega))
  have bx : L.getD i 0 < 4294967296 := hL.getD (by decide) i
  have by_ : L.getD (i + 1) 0 < 4294967296 := hL.getD (by decide) (i + 1)
  have hb : (4294967296 : Nat) = 2 ^ s * 2 ^ (32 - s) := by rw [← Nat.pow_add, show s + (32 - s) = 32 by omega]
  have hstep := down_step (b := W) (S := 2 ^ s) (D := 2 ^ (32 - s)) (x := L.getD i 0) (y := L.getD (i + 1) 0) (X := nv W (L.drop (i + 1))) (Y := nv W (L.drop (i + 2))) hb (Nat.pow_pos (by decide)) (drop_nv W L (by omega))
  have hnew : L.getD i 0 / 2 ^ s + L.getD (i + 1) 0 * 2 ^ (32 - s) % 4294967296 < 4294967296 := by
    have a1 : L.getD i 0 / 2 ^ s < 2 ^ (32 - s) := Nat.div_lt_of_lt_mul (by rw [← hb]; exact bx)
    have a2 : L.getD (i + 1) 0 * 2 ^ (32 - s) % 4294967296 = 2 ^ (32 - s) * (L.getD (i + 1) 0 % 2 ^ s) := by
      rw [hb, Nat.mul_comm (L.getD (i + 1) 0), Nat.mul_comm (2 ^ s), Nat.mul_mod_mul_left]
    have a3 : L.getD (i + 1) 0 % 2 ^ s < 2 ^ s := Nat.mod_lt _ (Nat.pow_pos (by decide))
    have a4 := Nat.mul_le_mul_left (2 ^ (32 - s)) (show L.getD (i + 1) 0 % 2 ^ s + 1 ≤ 2 ^ s from a3)
    rw [Nat.mul_add, Nat.mul_comm (2 ^ (32 - s)) (2 ^ s), ← hb] at a4
    rw [a2]
    omega
  refine ⟨L.getD i 0, L.getD (i + 1) 0, bx, by_, by rw [h5.cell (by omega), hx], by rw [h5.cell (by omega), hy], h5.frozen i, hnew, L3.set i (L.getD i 0 / 2 ^ s + L.getD (i + 1) 0 * 2 ^ (32 - s) % 4294967296), by simpa using h1, h2.set hnew _, ?_, ?_, h5.set_ _ _, h6.far ?_ _, h7.setCell (by simp) _⟩
  · rw [drop_set_hi (by omega)]; exact drop_more h3 (by omega)
  · rw [nvp_set_at (by omega), pow_succ_mul, ← h4, drop_nv W L (show i < L.length by omega), hstep, Nat.mul_add (W ^ i), Nat.add_assoc]
    congr 1
    rw [← Nat.mul_add, ← Nat.mul_add]
  · intro g hg
    injection hg with hg; injection hg with hg
    simp; omega
end Go.Proofs.YtpikjceodmepiaaGreatDoor
namespace Go.Proofs.YtpikjceodmepiaaGreatDoor
open Go.RowKit Hb
def Bx (w : World) (g : Nat) (x y : Value) : Prop := w.heap[g]? = some (.cells #[x, y] 56 (0, 0))
section
variable {w w' : World} {C g : Nat} {x y u v : Value} {p : Addr}
theorem Bx.below (h : Bx w g x y) (hb : Below C w w') (hg : g < C) : Bx w' g x y := (hb.block g hg).trans h
theorem Bx.facts (h : Bx w g x y) : w.cell? ⟨g, 0, none⟩ = some x ∧ w.cell? ⟨g, 1, none⟩ = some y ∧ w.frozen? ⟨g, 0, none⟩ = false ∧ w.frozen? ⟨g, 1, none⟩ = false :=
  two_cells (Below.refl (g + 1) w) h (by omega)
theorem Bx.lt (h : Bx w g x y) : g < w.heap.size := (Array.getElem?_eq_some_iff.1 h).1
theorem Bx.far (h : Bx w g x y) (hp : g ≠ p.block) (u : Value) : Bx (w.setCell p u) g x y := (Below.heap_setCell w p u g hp).trans h
theorem Bx.set (h : Bx w g x y) (u v : Value) : Bx ((w.setCell ⟨g, 0, none⟩ u).setCell ⟨g, 1, none⟩ v) g u v := by
  unfold Bx at h ⊢
  simp [World.setCell, Array.getElem?_modify, h]
theorem Bx.alloc (h : Bx w g x y) (o : Obj) : Bx (w.alloc o) g x y := by
  have := h.lt
  unfold Bx at h ⊢
  rw [World.alloc]
  simp only [Array.getElem?_push]
  rw [if_neg (by omega)]; exact h
theorem Bx.new (w : World) (x y : Value) : Bx (w.alloc (.cells #[x, y] 56)) w.heap.size x y := heap_alloc_new w _
end
theorem Own.farB {t : TypeId} {w : World} {B n c : Nat} {A : Option Addr} {xs : List Value} {p : Addr} (h : Own t w B A n c xs) (hp : p.block < B) (u : Value) : Own t (w.setCell p u) B A n c xs := by
  refine h.far ?_ u
  intro g' hA
  rcases h.form with ⟨h1, _⟩ | ⟨g2, h1, h2, _⟩
  · rw [h1] at hA; cases hA
  · rw [h1] at hA
    injection hA with hA
    injection hA with hA
    omega
end Go.Proofs.YtpikjceodmepiaaGreatDoor
namespace Go.Proofs.YtpikjceodmepiaaGreatDoor
open Go.RowKit Hb
def pval (r : Nat) (ds : List Nat) : Nat := ds.foldl (fun a d => a * r + d) 0
theorem pval_snoc (r : Nat) (ds : List Nat) (d : Nat) : pval r (ds ++ [d]) = pval r ds * r + d := by simp [pval]
theorem pval_take_succ (r : Nat) (ds : List Nat) {k : Nat} (h : k < ds.length) : pval r (ds.take (k + 1)) = pval r (ds.take k) * r + ds.getD k 0 := by
  rw [List.take_succ_eq_append_getElem h, pval_snoc, getD_eq h]
theorem nrm_snoc {l : List Nat} {c : Nat} (hc : c ≠ 0) : Nrm (l ++ [c]) := by
  intro h; simpa using hc
theorem nrm_len {l : List Nat} (hn : Nrm l) {k : Nat} (h : nv W l < W ^ k) : l.length ≤ k := by
  by_cases hl : l = []
  · simp [hl]
  · have h1 := nv_ge (b := W) hn hl
    have := pow_lt_pow' (b := W) (by decide) (Nat.lt_of_le_of_lt h1 h)
    have hlen : 0 < l.length := List.length_pos_iff.2 hl
    omega
/-- at the head of the outer loop -/
def PRel (W0 : World) (r : Nat) (ds : List Nat) (i : Nat) (lv : Value) (wr : World) : Prop :=
  ∃ A n c l, lv = .slice A n c ∧ OwnU wr W0.heap.size A n c (u32s l) ∧ l.length = n ∧ n ≤ 128 ∧ Dig W l ∧ Nrm l ∧ nv W l = pval r (ds.take i) ∧ nv W l < 2 ^ 4096 ∧ Below W0.heap.size W0 wr
/-- at the head of the inner one -/
def PIn (W0 : World) (A : Option Addr) (n c : Nat) (l : List Nat) (r d k : Nat) (cv : Value) (wr : World) : Prop :=
  ∃ (o : List Nat) (cy : Nat), cv = .int .u64 (cy : Int) ∧ cy < 4294967296 ∧ o.length = n ∧ Dig W o ∧ (∀ j, k ≤ j → o.getD j 0 = l.getD j 0) ∧ nv W o + W ^ k * cy + nvp W l k = nvp W l k * r + d + nv W l ∧
    OwnU wr W0.heap.size A n c (u32s o) ∧ Below W0.heap.size W0 wr
theorem par_lt {x r c : Nat} (hx : x < 4294967296) (hr : r ≤ 36) (hc : c < 4294967296) : x * r ≤ 154618822620 ∧ (x * r + c) / 4294967296 < 4294967296 := by
  have h : x * r ≤ 4294967295 * 36 := Nat.mul_le_mul (by omega) hr
  omega
theorem PIn.facts {W0 wr : World} {g n c : Nat} {l : List Nat} {r d k : Nat} {cv : Value} (h : PIn W0 (some ⟨g, 0, none⟩) n c l r d k cv wr) (hk : k < n) (hr : r ≤ 36) (hl : Dig W l) :
    ∃ cy : Nat, cv = .int .u64 (cy : Int) ∧ cy < 4294967296 ∧ wr.cell? ⟨g, k, none⟩ = some (.int .u32 (l.getD k 0 : Nat)) ∧ wr.frozen? ⟨g, k, none⟩ = false ∧
      PIn W0 (some ⟨g, 0, none⟩) n c l r d (k + 1) (.int .u64 (((l.getD k 0 * r + cy) / 4294967296 : Nat) : Int)) (wr.setCell ⟨g, k, none⟩ (.int .u32 (((l.getD k 0 * r + cy) % 4294967296 : Nat) : Int))) := by
  obtain ⟨o, cy, rfl, h1, h2, h3, h4, h5, h6, h7⟩ := h
  have hx : l.getD k 0 < 4294967296 := hl.getD (by decide) k
  obtain ⟨g1, g2⟩ := par_lt hx hr h1
  have hB : W0.heap.size ≤ g := by
    obtain ⟨g', e, h8, _⟩ := Own.at_ h6 (by omega)
    injection e with e; injection e with e; omega
  refine ⟨cy, rfl, h1, by rw [Own.cell h6 hk, u32s_get (by omega), h4 k (Nat.le_refl _)], Own.frozen h6 k, ?_⟩
  refine ⟨o.set k ((l.getD k 0 * r + cy) % 4294967296), _, rfl, g2, by simpa using h2, h3.set (Nat.mod_lt _ (by decide)) _, fun j hj => ?_, ?_, ?_, h7.setCell hB _⟩
  · rw [lget_set_ne (by omega)]; exact h4 j (by omega)
  · have e1 := nv_set W (l := o) (p := k) (by omega) ((l.getD k 0 * r + cy) % 4294967296)
    rw [h4 k (Nat.le_refl _)] at e1
    rw [nvp_succ, pow_succ_mul]
    have e2 : W ^ k * ((l.getD k 0 * r + cy) % 4294967296) + W ^ k * (W * ((l.getD k 0 * r + cy) / 4294967296)) = W ^ k * (l.getD k 0 * r) + W ^ k * cy := by
      rw [← Nat.mul_add, ← Nat.mul_add]
      congr 1
      exact Nat.mod_add_div _ _
    rw [Nat.add_mul, Nat.mul_assoc (W ^ k)]
    omega
  · have := Own.set_ h6 k (.int .u32 (((l.getD k 0 * r + cy) % 4294967296 : Nat) : Int))
    rwa [u32s_set] at this
theorem PIn.done {W0 wr : World} {A : Option Addr} {n c : Nat} {l : List Nat} {r d : Nat} {cv : Value} (h : PIn W0 A n c l r d n cv wr) (hl : l.length = n) :
    ∃ (o : List Nat) (cy : Nat), cv = .int .u64 (cy : Int) ∧ cy < 4294967296 ∧ o.length = n ∧ Dig W o ∧ nv W o + W ^ n * cy = nv W l * r + d ∧ OwnU wr W0.heap.size A n c (u32s o) ∧ Below W0.heap.size W0 wr := by
  obtain ⟨o, cy, rfl, h1, h2, h3, h4, h5, h6, h7⟩ := h
  rw [nvp_all (Nat.le_of_eq hl)] at h5
  exact ⟨o, cy, rfl, h1, h2, h3, by omega, h6, h7⟩
/-- with a carry: one limb more -/
theorem PRel.more {W0 wr : World} {A : Option Addr} {n c : Nat} {l o : List Nat} {r i cy : Nat} {ds : List Nat} (hi : i < ds.length) (hv : nv W l = pval r (ds.take i)) (hcy : cy ≠ 0) (hcy4 : cy < 4294967296)
    (h1 : o.length = n) (h2 : Dig W o) (h3 : nv W o + W ^ n * cy = nv W l * r + ds.getD i 0) (h4 : OwnU wr W0.heap.size A (n + 1) c (u32s (o ++ [cy]))) (h5 : Below W0.heap.size W0 wr) :
    nv W (o ++ [cy]) = pval r (ds.take (i + 1)) ∧ (nv W (o ++ [cy]) < 2 ^ 4096 → PRel W0 r ds (i + 1) (.slice A (n + 1) c) wr) := by
  have e : nv W (o ++ [cy]) = pval r (ds.take (i + 1)) := by rw [pval_take_succ r ds hi, ← hv, ← h3, nv_snoc, h1]
  have hl : (o ++ [cy]).length = n + 1 := by simp [h1]
  refine ⟨e, fun hlt => ⟨A, n + 1, c, o ++ [cy], rfl, h4, hl, ?_, h2.append (Dig.cons hcy4 (Dig.nil _)), nrm_snoc hcy, e, hlt, h5⟩⟩
  have := nrm_len (k := 128) (nrm_snoc (l := o) hcy) (by rw [W128]; exact hlt)
  omega
end Go.Proofs.YtpikjceodmepiaaGreatDoor
namespace Go.Proofs.YtpikjceodmepiaaGreatDoor
open Go.RowKit Hb
def chrN (d : Nat) : Nat := if d < 10 then 48 + d else 87 + d
def u8s (l : List Nat) : List Value := l.map fun x : Nat => Value.int .u8 (x : Int)
abbrev OwnB := Own 5
theorem u8s_get {l : List Nat} {i : Nat} (h : i < l.length) : (u8s l)[i]? = some (.int .u8 (l.getD i 0 : Nat)) := by
  simp [u8s, h]
theorem u8s_set (l : List Nat) (k x : Nat) : (u8s l).set k (.int .u8 (x : Int)) = u8s (l.set k x) := by simp [u8s, List.map_set]
/-- dividing in place, from the high end -/
def TIn (W1 : World) (B1 B2 g n c : Nat) (l : List Nat) (A' : Option Addr) (n' c' : Nat) (out : List Nat) (r i : Nat) (sv : Value) (wr : World) : Prop :=
  ∃ (o : List Nat) (rem : Nat), sv = .int .u32 (rem : Int) ∧ rem < r ∧ o.length = n ∧ Dig W o ∧ (∀ j, j < i → o.getD j 0 = l.getD j 0) ∧ nv W (o.drop i) * r + rem = nv W (l.drop i) ∧
    OwnU wr B1 (some ⟨g, 0, none⟩) n c (u32s o) ∧ OwnB wr B2 A' n' c' (u8s out) ∧ Below B1 W1 wr
theorem drop_set_nv {o : List Nat} {j q : Nat} (h : j < o.length) : nv W ((o.set j q).drop j) = q + W * nv W (o.drop (j + 1)) := by
  rw [drop_nv W _ (by simpa using h), List.getD_eq_getElem?_getD, List.getElem?_set_self h, List.drop_set_of_lt (by omega)]; rfl
theorem TIn.facts {W1 wr : World} {B1 B2 g n c : Nat} {l : List Nat} {A' : Option Addr} {n' c' : Nat} {out : List Nat} {r j : Nat} {sv : Value}
    (h : TIn W1 B1 B2 g n c l A' n' c' out r (j + 1) sv wr) (hj : j < n) (hl : Dig W l) (hln : l.length = n) (hr : r ≤ 36) (hg1 : B1 ≤ g) (hg2 : g < B2) :
    ∃ rem : Nat, sv = .int .u32 (rem : Int) ∧ rem < r ∧ wr.cell? ⟨g, j, none⟩ = some (.int .u32 (l.getD j 0 : Nat)) ∧ wr.frozen? ⟨g, j, none⟩ = false ∧
      Hid (∀ w2, Dr wr w2 → w2.cell? ⟨g, j, none⟩ = some (.int .u32 (l.getD j 0 : Nat)) ∧ w2.frozen? ⟨g, j, none⟩ = false ∧ TIn W1 B1 B2 g n c l A' n' c' out r j (.int .u32 (((rem * 4294967296 + l.getD j 0) % r : Nat) : Int)) (w2.setCell ⟨g, j, none⟩ (.int .u32 (((rem * 4294967296 + l.getD j 0) / r : Nat) : Int)))) := by
  obtain ⟨o, rem, rfl, h0, h1, h2, h3, h4, h5, h6, h7⟩ := h
  have hx : l.getD j 0 < 4294967296 := hl.getD (by decide) j
  have hc : wr.cell? ⟨g, j, none⟩ = some (.int .u32 (l.getD j 0 : Nat)) := by rw [Own.cell h5 hj, u32s_get (by omega), h3 j (by omega)]
  have hf := Own.frozen h5 j
  have hq : (rem * 4294967296 + l.getD j 0) / r < 4294967296 := Nat.div_lt_of_lt_mul (by
    have := Nat.mul_le_mul_right 4294967296 (show rem + 1 ≤ r from h0)
    rw [Nat.add_mul] at this
    rw [Nat.mul_comm r]; omega)
  refine ⟨rem, rfl, h0, hc, hf, fun w2 hd => ⟨(hd.cell _).trans hc, (hd.frozen _).trans hf, ?_⟩⟩
  have k5 : OwnU w2 B1 (some ⟨g, 0, none⟩) n c (u32s o) := by obtain ⟨k, rfl⟩ := hd; exact h5
  have k6 : OwnB w2 B2 A' n' c' (u8s out) := by obtain ⟨k, rfl⟩ := hd; exact h6
  have k7 : Below B1 W1 w2 := by obtain ⟨k, rfl⟩ := hd; exact belowN h7 k
  refine ⟨o.set j ((rem * 4294967296 + l.getD j 0) / r), _, rfl, Nat.mod_lt _ (by omega), by simpa using h1, h2.set hq _, fun i hi => ?_, ?_, ?_, Own.farB k6 hg2 _, k7.setCell hg1 _⟩
  · rw [lget_set_ne (by omega)]; exact h3 i (by omega)
  · rw [drop_set_nv (by omega), drop_nv W l (by omega), ← h4]
    have e := Nat.div_add_mod (rem * 4294967296 + l.getD j 0) r
    show ((rem * 4294967296 + l.getD j 0) / r + 4294967296 * nv W (o.drop (j + 1))) * r + _ = l.getD j 0 + 4294967296 * _
    rw [Nat.add_mul, Nat.mul_add, Nat.mul_comm _ r, Nat.mul_assoc]
    omega
  · have := Own.set_ k5 j (.int .u32 (((rem * 4294967296 + l.getD j 0) / r : Nat) : Int))
    rwa [u32s_set] at this
theorem TIn.done {W1 wr : World} {B1 B2 g n c : Nat} {l : List Nat} {A' : Option Addr} {n' c' : Nat} {out : List Nat} {r : Nat} {sv : Value}
    (h : TIn W1 B1 B2 g n c l A' n' c' out r 0 sv wr) :
    ∃ o : List Nat, sv = .int .u32 ((nv W l % r : Nat) : Int) ∧ nv W l % r < r ∧ o.length = n ∧ Dig W o ∧ nv W o = nv W l / r ∧ OwnU wr B1 (some ⟨g, 0, none⟩) n c (u32s o) ∧ OwnB wr B2 A' n' c' (u8s out) ∧ Below B1 W1 wr := by
  obtain ⟨o, rem, rfl, h0, h1, h2, h3, h4, h5, h6, h7⟩ := h
  simp only [List.drop_zero] at h4
  have e1 : nv W l % r = rem := by rw [← h4, Nat.mul_comm, Nat.mul_add_mod, Nat.mod_eq_of_lt h0]
  have e2 : nv W l / r = nv W o := by rw [← h4, Nat.mul_comm, Nat.mul_add_div (by omega), Nat.div_eq_of_lt h0, Nat.add_zero]
  exact ⟨o, by rw [e1], by rw [e1]; exact h0, h1, h2, e2.symm, h5, h6, h7⟩
/-- at the head of the outer loop -/
def TRel (W1 : World) (B1 B2 g c r N : Nat) (lv ov : Value) (wr : World) : Prop :=
  ∃ (n : Nat) (l : List Nat) (A' : Option Addr) (n' c' : Nat) (ds : List Nat), lv = .slice (some ⟨g, 0, none⟩) n c ∧ ov = .slice A' n' c' ∧ l.length = n ∧ n ≤ 128 ∧ Dig W l ∧ Nrm l ∧
    digs r N = ds ++ digs r (nv W l) ∧ ds.length = n' ∧ n' ≤ 4096 ∧ OwnU wr B1 (some ⟨g, 0, none⟩) n c (u32s l) ∧ OwnB wr B2 A' n' c' (u8s (ds.map chrN)) ∧ Below B1 W1 wr
theorem TRel.lt {r N : Nat} {l : List Nat} {ds : List Nat} (hr : 2 ≤ r) (hn : l ≠ []) (hnrm : Nrm l) (h : digs r N = ds ++ digs r (nv W l)) : ds.length < (digs r N).length := by
  have h1 := nv_pos (b := W) (by decide) hnrm hn
  rw [h, digs_pos (by omega) (by omega)]
  simp
def RvRel (w1 : World) (B1 B2 n g c : Nat) (l : List Nat) (i : Nat) (wr : World) : Prop :=
  ∃ o : List Nat, o.length = n ∧ (∀ j, j < n → o.getD j 0 = if j < i ∨ n ≤ j + i then l.getD (n - 1 - j) 0 else l.getD j 0) ∧ OwnB wr B2 (some ⟨g, 0, none⟩) n c (u8s o) ∧ Below B1 w1 wr
theorem RvRel.facts {w1 wr : World} {B1 B2 n g c i k : Nat} {l : List Nat} (h : RvRel w1 B1 B2 n g c l i wr) (hk : k + i + 1 = n) (hik : i < k) (hB : B1 ≤ g) :
    wr.cell? ⟨g, i, none⟩ = some (.int .u8 (l.getD i 0 : Nat)) ∧ wr.cell? ⟨g, k, none⟩ = some (.int .u8 (l.getD k 0 : Nat)) ∧ wr.frozen? ⟨g, i, none⟩ = false ∧ wr.frozen? ⟨g, k, none⟩ = false ∧
      RvRel w1 B1 B2 n g c l (i + 1) ((wr.setCell ⟨g, i, none⟩ (.int .u8 (l.getD k 0 : Nat))).setCell ⟨g, k, none⟩ (.int .u8 (l.getD i 0 : Nat))) := by
  obtain ⟨o, h1, h2, h3, h4⟩ := h
  have e1 := h2 i (by omega)
  rw [if_neg (by omega)] at e1
  have e2 := h2 k (by omega)
  rw [if_neg (by omega)] at e2
  refine ⟨by rw [Own.cell h3 (by omega), u8s_get (by omega), e1], by rw [Own.cell h3 (by omega), u8s_get (by omega), e2], Own.frozen h3 i, Own.frozen h3 k, ?_⟩
  refine ⟨(o.set i (l.getD k 0)).set k (l.getD i 0), by simpa using h1, fun j hj => ?_, ?_, (h4.setCell hB _).setCell hB _⟩
  · by_cases hjk : j = k
    · subst hjk
      rw [List.getD_eq_getElem?_getD, List.getElem?_set_self (by simp; omega), if_pos (by omega), show n - 1 - j = i by omega]; rfl
    · rw [lget_set_ne (by omega)]
      by_cases hji : j = i
      · subst hji
        rw [List.getD_eq_getElem?_getD, List.getElem?_set_self (by omega), if_pos (by omega), show n - 1 - j = k by omega]; rfl
      · rw [lget_set_ne (by omega), h2 j hj]
        by_cases hc : j < i ∨ n ≤ j + i
        · rw [if_pos hc, if_pos (by omega)]
        · rw [if_neg hc, if_neg (by omega)]
  · have := Own.set_ (Own.set_ h3 i (.int .u8 (l.getD k 0 : Nat))) k (.int .u8 (l.getD i 0 : Nat))
    rwa [u8s_set, u8s_set] at this
theorem RvRel.done {w1 wr : World} {B1 B2 n g c i : Nat} {l : List Nat} (h : RvRel w1 B1 B2 n g c l i wr) (hl : l.length = n) (hi : n ≤ 2 * i + 1) : OwnB wr B2 (some ⟨g, 0, none⟩) n c (u8s l.reverse) ∧ Below B1 w1 wr := by
  obtain ⟨o, h1, h2, h3, h4⟩ := h
  have : o = l.reverse := by
    refine List.ext_getElem (by rw [List.length_reverse]; omega) fun j hj hj2 => ?_
    have e := h2 j (by omega)
    rw [getD_eq hj] at e
    rw [e, List.getElem_reverse, ← getD_eq]
    by_cases hc : j < i ∨ n ≤ j + i
    · rw [if_pos hc, hl]
    · rw [if_neg hc, hl, show n - 1 - j = j by omega]
  exact ⟨by rw [← this]; exact h3, h4⟩
end Go.Proofs.YtpikjceodmepiaaGreatDoor
namespace Go.Proofs.YtpikjceodmepiaaGreatDoor
open Go.RowKit Hb
theorem Own.int {w : World} {B c : Nat} {A : Option Addr} {z : Int} (ho : OwnU w B A (digs W z.natAbs).length c (u32s (digs W z.natAbs))) : SlU w w.heap.size A (digs W z.natAbs).length c (digs W z.natAbs) :=
  Own.sl ho (dig_digs (by decide) _) rfl
end Go.Proofs.YtpikjceodmepiaaGreatDoor
namespace Go.Proofs.YtpikjceodmepiaaGreatDoor
open Go.RowKit Hb
end Go.Proofs.YtpikjceodmepiaaGreatDoor
namespace Go.Proofs.YtpikjceodmepiaaGreatDoor
open Go.RowKit Hb
end Go.Proofs.YtpikjceodmepiaaGreatDoor
namespace Go.Proofs.YtpikjceodmepiaaGreatDoor
open Go.ChangeShapes Go.WideShapes Go.ChangeAt Go.RowKit Go.Joins Hb
section
variable {H : Type} {enc : TypeId × Value → H} {P : Program}
end
end Go.Proofs.YtpikjceodmepiaaGreatDoor
namespace Go.Proofs.YtpikjceodmepiaaGreatDoor
open Go.RowKit Hb
structure VE where
  g : Nat
  neg : Bool
  A : Option Addr
  n : Nat
  c : Nat
  l : List Nat
/-- the variables vs of a call that began at w0 -/
def Env (w0 w : World) (vs : List VE) : Prop :=
  Below w0.heap.size w0 w ∧ (∀ v ∈ vs, w0.heap.size ≤ v.g ∧ Bx w v.g (.bool v.neg) (.slice v.A v.n v.c) ∧ SlU w w.heap.size v.A v.n v.c v.l ∧ (v.l ≠ [] → ∀ u ∈ vs, ∀ b o, v.A = some ⟨b, o, none⟩ → b ≠ u.g)) ∧ (vs.map VE.g).Nodup
section
variable {w0 w w' : World} {vs : List VE} {v : VE}
theorem Env.b (h : Env w0 w vs) : Below w0.heap.size w0 w := h.1
theorem Env.x (h : Env w0 w vs) (hv : v ∈ vs) : Bx w v.g (.bool v.neg) (.slice v.A v.n v.c) := (h.2.1 v hv).2.1
theorem Env.s (h : Env w0 w vs) (hv : v ∈ vs) : SlU w w.heap.size v.A v.n v.c v.l := (h.2.1 v hv).2.2.1
theorem SlU.to {w w' : World} {B n c : Nat} {A : Option Addr} {l : List Nat} (h : SlU w B A n c l) (hb : Below w.heap.size w w') (hB : B ≤ w.heap.size) : SlU w' w'.heap.size A n c l :=
  (h.below hb hB).mono (Nat.le_trans hB hb.size)
theorem Env.below (h : Env w0 w vs) (hb : Below w.heap.size w w') : Env w0 w' vs :=
  ⟨h.1.trans (hb.mono h.1.size), fun v hv => ⟨(h.2.1 v hv).1, (h.x hv).below hb (h.x hv).lt, SlU.to (h.s hv) hb (Nat.le_refl _), (h.2.1 v hv).2.2.2⟩, h.2.2⟩
theorem Env.nil (w : World) : Env w w [] := ⟨Below.refl _ _, fun v hv => (by cases hv), by simp⟩
theorem SlU.far {w : World} {B n c : Nat} {A : Option Addr} {l : List Nat} (h : SlU w B A n c l) {p : Addr} (hp : l ≠ [] → ∀ b o, A = some ⟨b, o, none⟩ → b ≠ p.block) (u : Value) : SlU (w.setCell p u) B A n c l :=
  ⟨h.len, h.cap, h.max, h.dig, fun hx => by
    obtain ⟨b, o, hA, hlt, hc⟩ := h.rd hx
    refine ⟨b, o, hA, hlt, fun i v hi => ?_⟩
    rw [← hc i v hi]
    exact World.cell?_of_block (Below.heap_setCell w p u b (hp (fun e => hx (by rw [e]; rfl)) b o hA))⟩
end
/-- the variables' slices lie in old blocks -/
def Old (w : World) (vs : List VE) : Prop := ∀ v ∈ vs, v.l ≠ [] → ∀ b o, v.A = some ⟨b, o, none⟩ → b < w.heap.size
section
variable {w0 w w' : World} {vs : List VE} {v : VE}
theorem Old.below (h : Old w vs) (hb : Below w.heap.size w w') : Old w' vs := fun v hv hne b o e => Nat.lt_of_lt_of_le (h v hv hne b o e) hb.size
end
end Go.Proofs.YtpikjceodmepiaaGreatDoor
namespace Go.Proofs.YtpikjceodmepiaaGreatDoor
open Go.RowKit Hb
section
variable {w : World} {A A' : Option Addr} {n c n' c' : Nat} {l m : List Nat} {na nb : Bool} {x y z : Int}
end
theorem Old.nil (w : World) : Old w [] := fun v hv => (by cases hv)
end Go.Proofs.YtpikjceodmepiaaGreatDoor
namespace Go.Proofs.YtpikjceodmepiaaGreatDoor
open Go.RowKit Hb
section
variable {w : World} {A A' : Option Addr} {n c n' c' : Nat} {l m : List Nat} {na nb : Bool} {x y z1 z2 : Int}
end
end Go.Proofs.YtpikjceodmepiaaGreatDoor
namespace Go.Proofs.YtpikjceodmepiaaGreatDoor
open Go.RowKit Hb
end Go.Proofs.YtpikjceodmepiaaGreatDoor
namespace Go.Proofs.YtpikjceodmepiaaGreatDoor
open Go.RowKit Hb
end Go.Proofs.YtpikjceodmepiaaGreatDoor
namespace Go.Proofs.YtpikjceodmepiaaGreatDoor
open Go.RowKit Hb
theorem Own.same {t : TypeId} {w w' : World} {B g n c : Nat} {xs : List Value} (h : Own t w B (some ⟨g, 0, none⟩) n c xs) (he : w'.heap[g]? = w.heap[g]?) : Own t w' B (some ⟨g, 0, none⟩) n c xs := by
  refine ⟨h.1, ?_⟩
  rcases h.2 with ⟨h1, _⟩ | ⟨g', cap, cur, h1, h2, h3, h4⟩
  · cases h1
  · have h5 := h1
    injection h5 with a b cc
    injection a with a
    injection a with a
    subst a
    exact .inr ⟨g, cap, cur, h1, h2, he.trans h3, h4⟩
theorem Bx.same {w w' : World} {g : Nat} {x y : Value} (h : Bx w g x y) (he : w'.heap[g]? = w.heap[g]?) : Bx w' g x y := he.trans h
section
variable {P : Program} {ops : Array Oper} {Q : Exit → Act → World → Prop} {md : Region.Mode} {S : World → Prop} {st : Nat}
end
end Go.Proofs.YtpikjceodmepiaaGreatDoor
set_option linter.unusedVariables false
set_option linter.unusedSimpArgs false
namespace Go.Proofs.YtpikjceodmepiaaGreatDoor
open Go.RowKit Hb
set_option linter.unusedVariables false
set_option linter.unusedSimpArgs false
def ResB (w : World) (B : Nat) (v : Value) (z : Int) : Prop :=
  ∃ A c, v = .agg #[.bool (decide (z < 0)), .slice A (digs 2 z.natAbs).length c] ∧ OwnI w B A (digs 2 z.natAbs).length c (i64s (digs 2 z.natAbs))
theorem ResB.below {w w' : World} {B : Nat} {v : Value} {z : Int} (h : ResB w B v z) {C : Nat} (hb : Below C w w') (hC : w.heap.size ≤ C) : ResB w' B v z := by
  obtain ⟨A, c, hv, ho⟩ := h
  exact ⟨A, c, hv, ho.below hb hC⟩
theorem ResB.mono {w : World} {B B' : Nat} {v : Value} {z : Int} (h : ResB w B v z) (hB : B' ≤ B) : ResB w B' v z := by
  obtain ⟨A, c, hv, ho⟩ := h
  exact ⟨A, c, hv, ho.mono hB⟩
end Go.Proofs.YtpikjceodmepiaaGreatDoor
namespace Go.Proofs.YtpikjceodmepiaaGreatDoor
open Go.RowKit Hb
end Go.Proofs.YtpikjceodmepiaaGreatDoor
namespace Go.Proofs.YtpikjceodmepiaaGreatDoor
open Go.RowKit Hb
end Go.Proofs.YtpikjceodmepiaaGreatDoor
namespace Go.Proofs.YtpikjceodmepiaaGreatDoor
open Go.RowKit Hb
end Go.Proofs.YtpikjceodmepiaaGreatDoor
namespace Go.Proofs.YtpikjceodmepiaaGreatDoor
open Go.RowKit Hb
end Go.Proofs.YtpikjceodmepiaaGreatDoor
namespace Go.Proofs.YtpikjceodmepiaaGreatDoor
open Go.RowKit Hb
end Go.Proofs.YtpikjceodmepiaaGreatDoor
namespace Go.Proofs.YtpikjceodmepiaaGreatDoor
open Go.RowKit Hb
end Go.Proofs.YtpikjceodmepiaaGreatDoor
namespace Go.Proofs.YtpikjceodmepiaaGreatDoor
open Go.RowKit Hb
set_option maxRecDepth 100000 in
set_option maxHeartbeats 1000000 in
/-- the same sign, the same limbs -/
theorem rsame_true (s : Bool) {B B' : Nat} {A A' : Option Addr} {l : List Nat} {n c c' : Nat} {w : World} (hs : SlU w B A n c l) (ht : SlU w B' A' n c' l) (hB : B ≤ w.heap.size) (hB' : B' ≤ w.heap.size) :
    Calls Tryz.prog 93 #[.agg #[.bool s, .slice A n c], .agg #[.bool s, .slice A' n c']] w fun e w' => e = .returned (.bool true) ∧ Below w.heap.size w w' := by
  have hm := hs.max
  have hcp := hs.cap
  unfold maxLen at hm
  have HB := Lib.hid (((Below.refl w.heap.size w).alloc (Nat.le_refl _) (.cells #[.bool s, .slice A n c] 56)).alloc (by simp) (.cells #[.bool s, .slice A' n c'] 56))
  have HX0 := Lib.hid ((Bx.new w (.bool s) (.slice A n c)).alloc (.cells #[.bool s, .slice A' n c'] 56))
  have hx1 := Bx.new (w.alloc (.cells #[.bool s, .slice A n c] 56)) (.bool s) (.slice A' n c')
  rw [World.size_alloc] at hx1
  have HX1 := Lib.hid hx1
  have HS := Lib.hid (fun w1 (hb : Below w.heap.size w w1) => And.intro (hs.below (C := w.heap.size) hb hB) (ht.below (C := w.heap.size) hb hB'))
  have hn9 : (n : Int) ≤ 9223372036854775807 := by omega
  clear hs ht hB hB' hx1 hm hcp
  go_enter Tryz.func93, Tryz.ntmps93
  go_wp2_with fail
  generalize ((w.alloc (.cells #[.bool s, .slice A n c] 56)).alloc (.cells #[.bool s, .slice A' n c'] 56)) = w2 at *
  go_loopw [5] (fun iv wr => ∃ i : Nat, i ≤ n ∧ iv = .int .i64 (i : Int) ∧ Dr w2 wr) (fun iv _ => n - (intOf iv).toNat)
  case atStart => exact ⟨0, Nat.zero_le _, rfl, Dr.refl _⟩
  case round =>
    obtain ⟨i, hi, rfl, hdr⟩ := hrel
    have HDr := Lib.hid hdr
    have hbd := hdr.below w2.heap.size
    obtain ⟨a0, a1, _, _⟩ := (HX0.out.below hbd (Bx.lt HX0.out)).facts
    obtain ⟨b0, b1, _, _⟩ := (HX1.out.below hbd (Bx.lt HX1.out)).facts
    have HBr := Lib.hid (HB.out.trans (hbd.mono HB.out.size))
    have hi0 : (0 : Int) ≤ (i : Int) := by omega
    clear hdr hbd
    by_cases hin : i < n
    · have hiI : (i : Int) < (n : Int) := by omega
      obtain ⟨b, o, rfl, _, hc1⟩ := SlU.at_ (HS.out wr HBr.out).1 (by omega)
      obtain ⟨b', o', rfl, _, hc2⟩ := SlU.at_ (HS.out wr HBr.out).2 (by omega)
      have hx := hc1 i hin
      have hy := hc2 i hin
      generalize l.getD i 0 = x at *
      clear hc1 hc2 HS
      go_wp2
      go_quiet (fail)
      go_wp2
      go_roundw
      case rel => exact ⟨i + 1, by omega, by go_num, HDr.out.more _⟩
      case measure => simp [intOf]; omega
    · obtain rfl : i = n := by omega
      clear HS
      go_wp2
      go_ret
      exact ⟨rfl, HBr.out⟩
end Go.Proofs.YtpikjceodmepiaaGreatDoor

