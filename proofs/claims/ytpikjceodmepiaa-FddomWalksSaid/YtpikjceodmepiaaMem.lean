/-
  Slices that read as lists of numbers; slices that the call itself has made. No program in sight.
-/
import Derived.WalkKit
import Derived.Lib.Hide
import Derived.Deep.OwnRows
import Derived.Deep.Draws
import Derived.Deep.QuietTactic
import Derived.Laws.CopyOwn
import Derived.Test.YtpikjceodmepiaaMath
set_option linter.unusedVariables false
set_option linter.unusedSimpArgs false
namespace Hb
open Go Go.RowKit

/-- nothing but draws -/
def Dr (a w : World) : Prop := ∃ k, w = a.drewN k
theorem Dr.refl (a : World) : Dr a a := ⟨0, rfl⟩
theorem Dr.more {a w : World} (h : Dr a w) (n : Nat) : Dr a (w.drewN n) := by
  obtain ⟨k, rfl⟩ := h
  exact ⟨k + n, by rw [World.drewN_drewN]⟩
theorem Dr.drew {a w : World} (h : Dr a w) : Dr a w.drew := h.more 1
theorem Dr.trans {a b c : World} (h : Dr a b) (k : Dr b c) : Dr a c := by
  obtain ⟨n, rfl⟩ := k
  exact h.more n
theorem Dr.cell {a w : World} (h : Dr a w) (p : Addr) : w.cell? p = a.cell? p := by
  obtain ⟨k, rfl⟩ := h
  rfl
theorem Dr.heap {a w : World} (h : Dr a w) : w.heap = a.heap := by
  obtain ⟨k, rfl⟩ := h
  rfl
theorem Dr.frozen {a w : World} (h : Dr a w) (p : Addr) : w.frozen? p = a.frozen? p := by
  obtain ⟨k, rfl⟩ := h
  rfl
theorem Dr.setCell {a w : World} (h : Dr a w) (p : Addr) (u : Value) : Dr (a.setCell p u) (w.setCell p u) := by
  obtain ⟨k, rfl⟩ := h
  exact ⟨k, rfl⟩
theorem Dr.alloc {a w : World} (h : Dr a w) (o : Obj) : Dr (a.alloc o) (w.alloc o) := by
  obtain ⟨k, rfl⟩ := h
  exact ⟨k, rfl⟩
theorem Dr.below {a w : World} (h : Dr a w) (B : Nat) : Below B a w := by
  obtain ⟨k, rfl⟩ := h
  exact ⟨rfl, rfl, rfl, Nat.le_refl _, fun _ _ => rfl⟩
theorem belowN {B : Nat} {a w : World} (h : Below B a w) (n : Nat) : Below B a (w.drewN n) := ⟨h.os, h.tape, h.output, h.size, h.block⟩

theorem quiet_left {P : Program} {f : FuncId} {args : Array Value} {w : World} {n : Nat} {v : Value}
    (h : Calls P f args (w.drewN n) fun e w' => e = .returned v ∧ w.drewN n = w') : Calls P f args (w.drewN n) fun e w'' => e = .returned v ∧ ∃ m, w'' = w.drewN m :=
  h.mono fun _ _ ⟨he, hm⟩ => ⟨he, n, hm.symm⟩
theorem quiet_add_left {P : Program} {f : FuncId} {args : Array Value} {w : World} {a n : Nat} {v : Value}
    (h : Calls P f args (w.drewN (a + n)) fun e w' => e = .returned v ∧ w.drewN (a + n) = w') :
    Calls P f args (w.drewN (a + n)) fun e w'' => e = .returned v ∧ ∃ m, w'' = w.drewN (a + m) :=
  h.mono fun _ _ ⟨he, hm⟩ => ⟨he, n, hm.symm⟩
/-- limbs, and ints, as cells -/
def u32s (l : List Nat) : List Value := l.map fun x : Nat => Value.int .u32 (x : Int)
def i64s (l : List Nat) : List Value := l.map fun x : Nat => Value.int .i64 (x : Int)
theorem u32s_length (l : List Nat) : (u32s l).length = l.length := by simp [u32s]
theorem i64s_length (l : List Nat) : (i64s l).length = l.length := by simp [i64s]
theorem u32s_get {l : List Nat} {i : Nat} (h : i < l.length) : (u32s l)[i]? = some (.int .u32 (l.getD i 0 : Nat)) := by
  simp [u32s, h]
theorem i64s_get {l : List Nat} {i : Nat} (h : i < l.length) : (i64s l)[i]? = some (.int .i64 (l.getD i 0 : Nat)) := by
  simp [i64s, h]
theorem u32s_take (l : List Nat) (k : Nat) : (u32s l).take k = u32s (l.take k) := by simp [u32s, List.map_take]
theorem i64s_take (l : List Nat) (k : Nat) : (i64s l).take k = i64s (l.take k) := by simp [i64s, List.map_take]
theorem u32s_drop (l : List Nat) (k : Nat) : (u32s l).drop k = u32s (l.drop k) := by simp [u32s, List.map_drop]
theorem i64s_drop (l : List Nat) (k : Nat) : (i64s l).drop k = i64s (l.drop k) := by simp [i64s, List.map_drop]
theorem u32s_append (l m : List Nat) : u32s l ++ u32s m = u32s (l ++ m) := by simp [u32s]
theorem i64s_append (l m : List Nat) : i64s l ++ i64s m = i64s (l ++ m) := by simp [i64s]
theorem u32s_set (l : List Nat) (k x : Nat) : (u32s l).set k (.int .u32 (x : Int)) = u32s (l.set k x) := by simp [u32s, List.map_set]
theorem i64s_set (l : List Nat) (k x : Nat) : (i64s l).set k (.int .i64 (x : Int)) = i64s (l.set k x) := by simp [i64s, List.map_set]
theorem u32s_one (l : List Nat) : ∀ u ∈ u32s l, u.oneCell' = true := by
  intro u hu; obtain ⟨x, _, rfl⟩ := List.mem_map.1 hu; rfl
theorem i64s_one (l : List Nat) : ∀ u ∈ i64s l, u.oneCell' = true := by
  intro u hu; obtain ⟨x, _, rfl⟩ := List.mem_map.1 hu; rfl
theorem u32s_ne {l : List Nat} (h : 0 < l.length) : u32s l ≠ [] := by
  intro e; have := congrArg List.length e; simp [u32s_length] at this; subst this; simp at h
theorem i64s_ne {l : List Nat} (h : 0 < l.length) : i64s l ≠ [] := by
  intro e; have := congrArg List.length e; simp [i64s_length] at this; subst this; simp at h
theorem u32s_zeros (n : Nat) : (madeCells #[Value.int .u32 0] n).toList = u32s (List.replicate n 0) := by
  rw [toList_madeCells_one]; simp [u32s]
theorem i64s_zeros (n : Nat) : (madeCells #[Value.int .i64 0] n).toList = i64s (List.replicate n 0) := by
  rw [toList_madeCells_one]; simp [i64s]

/-- The slice at A reads as xs; it lies below block B. -/
def Rd (w : World) (B : Nat) (A : Option Addr) (xs : List Value) : Prop :=
  xs ≠ [] → ∃ b o, A = some ⟨b, o, none⟩ ∧ b < B ∧ ∀ i v, xs[i]? = some v → w.cell? ⟨b, o + i, none⟩ = some v

section
variable {w w' : World} {B : Nat} {A : Option Addr} {xs : List Value}
theorem Rd.nil (w : World) (B : Nat) (A : Option Addr) : Rd w B A [] := fun h => absurd rfl h
theorem Rd.below (h : Rd w B A xs) {C : Nat} (hb : Below C w w') (hC : B ≤ C) : Rd w' B A xs := fun hx => by
  obtain ⟨b, o, hA, hlt, hc⟩ := h hx
  exact ⟨b, o, hA, hlt, fun i v hi => (hb.cell (p := ⟨b, o + i, none⟩) (Nat.lt_of_lt_of_le hlt hC)).trans (hc i v hi)⟩
theorem Rd.mono (h : Rd w B A xs) {B' : Nat} (hB : B ≤ B') : Rd w B' A xs := fun hx => by
  obtain ⟨b, o, hA, hlt, hc⟩ := h hx
  exact ⟨b, o, hA, Nat.lt_of_lt_of_le hlt hB, hc⟩
theorem Rd.take (h : Rd w B A xs) (k : Nat) : Rd w B A (xs.take k) := fun hx => by
  obtain ⟨b, o, hA, hlt, hc⟩ := h (by rintro rfl; simp at hx)
  refine ⟨b, o, hA, hlt, fun i v hi => hc i v ?_⟩
  rw [List.getElem?_take] at hi
  split at hi
  · exact hi
  · cases hi
end

/-- A slice that came in: n limbs l, capacity c, below block B; E makes the cells. -/
structure Sl (E : List Nat → List Value) (base : Nat) (w : World) (B : Nat) (A : Option Addr) (n c : Nat) (l : List Nat) : Prop where
  len : l.length = n
  cap : n ≤ c
  max : c ≤ maxLen
  dig : Dig base l
  rd : Rd w B A (E l)
abbrev SlU := Sl u32s 4294967296
abbrev SlI := Sl i64s 2

section
variable {E : List Nat → List Value} {base : Nat} {w w' : World} {B : Nat} {A : Option Addr} {n c : Nat} {l : List Nat}
theorem Sl.below (h : Sl E base w B A n c l) {C : Nat} (hb : Below C w w') (hC : B ≤ C) : Sl E base w' B A n c l := ⟨h.len, h.cap, h.max, h.dig, h.rd.below hb hC⟩
theorem Sl.mono (h : Sl E base w B A n c l) {B' : Nat} (hB : B ≤ B') : Sl E base w B' A n c l := ⟨h.len, h.cap, h.max, h.dig, h.rd.mono hB⟩
theorem SlU.take (h : SlU w B A n c l) {k : Nat} (hk : k ≤ n) : SlU w B A k c (l.take k) :=
  ⟨by rw [List.length_take, h.len]; omega, Nat.le_trans hk h.cap, h.max, h.dig.take _, by rw [← u32s_take]; exact h.rd.take k⟩
theorem SlI.take (h : SlI w B A n c l) {k : Nat} (hk : k ≤ n) : SlI w B A k c (l.take k) :=
  ⟨by rw [List.length_take, h.len]; omega, Nat.le_trans hk h.cap, h.max, h.dig.take _, by rw [← i64s_take]; exact h.rd.take k⟩
theorem SlU.tr (h : SlU w B A n c l) : SlU w B A (tlen l) c (tr l) := h.take (by rw [← h.len]; exact tlen_le l)
theorem SlI.tr (h : SlI w B A n c l) : SlI w B A (tlen l) c (tr l) := h.take (by rw [← h.len]; exact tlen_le l)
theorem SlU.nil (w : World) (B : Nat) (A : Option Addr) (c : Nat) (hc : c ≤ maxLen) : SlU w B A 0 c [] := ⟨rfl, Nat.zero_le _, hc, Dig.nil _, Rd.nil _ _ _⟩
theorem SlI.nil (w : World) (B : Nat) (A : Option Addr) (c : Nat) (hc : c ≤ maxLen) : SlI w B A 0 c [] := ⟨rfl, Nat.zero_le _, hc, Dig.nil _, Rd.nil _ _ _⟩
/-- where an element is, the slice has an address -/
theorem SlU.at_ (h : SlU w B A n c l) (hn : 0 < n) : ∃ b o, A = some ⟨b, o, none⟩ ∧ b < B ∧ ∀ i, i < n → w.cell? ⟨b, o + i, none⟩ = some (.int .u32 (l.getD i 0 : Nat)) := by
  obtain ⟨b, o, hA, hb, hc⟩ := h.rd (u32s_ne (by rw [h.len]; exact hn))
  exact ⟨b, o, hA, hb, fun i hi => hc i _ (u32s_get (by rw [h.len]; exact hi))⟩
theorem SlI.at_ (h : SlI w B A n c l) (hn : 0 < n) : ∃ b o, A = some ⟨b, o, none⟩ ∧ b < B ∧ ∀ i, i < n → w.cell? ⟨b, o + i, none⟩ = some (.int .i64 (l.getD i 0 : Nat)) := by
  obtain ⟨b, o, hA, hb, hc⟩ := h.rd (i64s_ne (by rw [h.len]; exact hn))
  exact ⟨b, o, hA, hb, fun i hi => hc i _ (i64s_get (by rw [h.len]; exact hi))⟩
end

theorem addr_add (b o i : Nat) : (⟨b, o, none⟩ : Addr).add i = ⟨b, o + i, none⟩ := by unfold Addr.add; split <;> simp_all
theorem add_zero' (g i : Nat) : (⟨g, 0, none⟩ : Addr).add i = ⟨g, i, none⟩ := by unfold Addr.add; split <;> simp_all
/-- A slice of the call's own, from block B on: its limbs l; it may be written, and it reaches to its row's end. -/
def Own (t : TypeId) (w : World) (B : Nat) (A : Option Addr) (n c : Nat) (xs : List Value) : Prop := w.ownsRow B t 1 (.slice A n c) n xs

section
variable {t : TypeId} {w w' : World} {B g : Nat} {A : Option Addr} {n c : Nat} {xs : List Value} {l : List Nat}
theorem Own.length (h : Own t w B A n c xs) : xs.length = n := by have := h.1; omega
theorem Own.form (h : Own t w B A n c xs) : (A = none ∧ n = 0 ∧ c = 0) ∨ ∃ g, A = some ⟨g, 0, none⟩ ∧ B ≤ g ∧ g < w.heap.size := by
  rcases h.2 with ⟨h1, _⟩ | ⟨g, cap, cur, h1, h2, h3, _⟩
  · left; injection h1 with a b c; exact ⟨a, b, c⟩
  · right; injection h1 with a b c; exact ⟨g, a, h2, (Array.getElem?_eq_some_iff.1 h3).1⟩
theorem Own.at_ (h : Own t w B A n c xs) (hn : 0 < n) : ∃ g, A = some ⟨g, 0, none⟩ ∧ B ≤ g ∧ g < w.heap.size := by
  rcases h.form with ⟨_, h1, _⟩ | h1
  · omega
  · exact h1
theorem Own.cap (h : Own t w B A n c xs) : n ≤ c ∧ c ≤ maxLen := by
  rcases h.2 with ⟨h1, _⟩ | ⟨g, cap, cur, h1, h2, h3, h4, h5, _⟩
  · injection h1 with a b c; subst b; subst c; exact ⟨Nat.le_refl _, by simp [maxLen]⟩
  · injection h1 with a b c; subst c; exact ⟨h4, h5⟩
theorem Own.below (h : Own t w B A n c xs) {C : Nat} (hb : Below C w w') (hC : w.heap.size ≤ C) : Own t w' B A n c xs := by
  refine ⟨h.1, ?_⟩
  rcases h.2 with h1 | ⟨g, cap, cur, h1, h2, h3, h4⟩
  · exact .inl h1
  · exact .inr ⟨g, cap, cur, h1, h2, (hb.block g (Nat.lt_of_lt_of_le (Array.getElem?_eq_some_iff.1 h3).1 hC)).trans h3, h4⟩
theorem Own.mono (h : Own t w B A n c xs) {B' : Nat} (hB : B' ≤ B) : Own t w B' A n c xs := by
  refine ⟨h.1, ?_⟩
  rcases h.2 with h1 | ⟨g, cap, cur, h1, h2, h3, h4⟩
  · exact .inl h1
  · exact .inr ⟨g, cap, cur, h1, Nat.le_trans hB h2, h3, h4⟩
theorem Own.take (h : Own t w B A n c xs) {k : Nat} (hk : k ≤ n) : Own t w B A k c (xs.take k) := by
  have hl := h.length
  have hc := h.cap
  rcases h.2 with ⟨h1, h2⟩ | ⟨g, cap, cur, h1, h2, h3, h4, h5, h6, h7⟩
  · injection h1 with a b c
    subst a; subst b; subst c
    have : k = 0 := by omega
    subst this
    exact ⟨by simp, .inl ⟨rfl, by simp⟩⟩
  · injection h1 with a b c
    subst a; subst c
    refine ⟨by rw [List.length_take]; omega, .inr ⟨g, _, cur, rfl, h2, h3, by omega, h5, h6, ?_⟩⟩
    rw [← h7, List.take_take]
    congr 1
    omega
theorem Own.rd (h : Own t w B A n c xs) : Rd w w.heap.size A xs := fun hx => by
  have hn : 0 < n := by rw [← h.length]; exact List.length_pos_iff.2 hx
  obtain ⟨g, rfl, h1, h2⟩ := h.at_ hn
  refine ⟨g, 0, rfl, h2, fun i v hi => ?_⟩
  have := World.ownsRow.cells h (g := g) rfl i v hi
  rw [add_zero' g i] at this
  rw [Nat.zero_add]; exact this
theorem Own.sl {E : List Nat → List Value} {base : Nat} (h : Own t w B A n c (E l)) (hd : Dig base l) (hl : l.length = n) : Sl E base w w.heap.size A n c l :=
  ⟨hl, h.cap.1, h.cap.2, hd, h.rd⟩
/-- out of a block that is known whole -/
theorem Own.of_block (hg : w.heap[g]? = some (.cells xs.toArray t (0, 0))) (hB : B ≤ g) (hm : xs.length ≤ maxLen) : Own t w B (some ⟨g, 0, none⟩) xs.length xs.length xs :=
  ⟨by simp, .inr ⟨g, _, _, rfl, hB, hg, Nat.le_refl _, hm, by simp, by simp⟩⟩
theorem Own.made (w : World) (z : Value) (n : Nat) (t : TypeId) (hB : B ≤ w.heap.size) (hm : n ≤ maxLen) :
    Own t (w.alloc (.cells (madeCells #[z] n) t)) B (some ⟨w.heap.size, 0, none⟩) n n (madeCells #[z] n).toList := by
  have h := Own.of_block (w := w.alloc (.cells (madeCells #[z] n) t)) (g := w.heap.size) (t := t) (B := B) (xs := (madeCells #[z] n).toList) (by rw [Array.toArray_toList]; exact heap_alloc_new w _) hB (by simpa [size_madeCells] using hm)
  have e : (madeCells #[z] n).toList.length = n := by simp [size_madeCells]
  rw [e] at h
  exact h
theorem Own.alloc (h : Own t w B A n c xs) (o : Obj) : Own t (w.alloc o) B A n c xs := World.ownsRow.alloc h o
theorem Own.drew (h : Own t w B A n c xs) : Own t w.drew B A n c xs := h
/-- an element is read, is written -/
theorem Own.cell (h : Own t w B (some ⟨g, 0, none⟩) n c xs) {j : Nat} (hj : j < n) : w.cell? ⟨g, j, none⟩ = xs[j]? := by
  have hc := h.cap
  have := World.ownsRow.cells h (g := g) rfl
  have e : xs[j]? = some (xs[j]'(by rw [h.length]; exact hj)) := List.getElem?_eq_getElem _
  rw [e]
  have h2 := this j _ e
  rw [add_zero' g j] at h2
  exact h2
theorem Own.frozen (h : Own t w B (some ⟨g, 0, none⟩) n c xs) (j : Nat) : w.frozen? ⟨g, j, none⟩ = false := by
  rcases h.2 with ⟨h1, _⟩ | ⟨g', cap, cur, h1, h2, h3, _⟩
  · cases h1
  · injection h1 with a b c
    injection a with a
    injection a with a
    subst a
    simp [World.frozen?, h3]
theorem Own.set_ (h : Own t w B (some ⟨g, 0, none⟩) n c xs) (j : Nat) (u : Value) : Own t (w.setCell ⟨g, j, none⟩ u) B (some ⟨g, 0, none⟩) n c (xs.set j u) := by
  rcases h.2 with ⟨h1, _⟩ | ⟨g', cap, cur, h1, h2, h3, h4, h5, h6, h7⟩
  · cases h1
  · injection h1 with a b cc
    injection a with a
    injection a with a
    subst a; subst cc
    refine ⟨by simpa using h.1, .inr ⟨g, c, cur.setIfInBounds j u, rfl, h2, ?_, h4, h5, by simpa using h6, ?_⟩⟩
    · simp [World.setCell, Array.getElem?_modify, h3]
    · rw [← h7, Array.toList_setIfInBounds, List.take_set]
theorem Own.far (h : Own t w B A n c xs) {p : Addr} (hp : ∀ g, A = some ⟨g, 0, none⟩ → g ≠ p.block) (u : Value) : Own t (w.setCell p u) B A n c xs := by
  refine ⟨h.1, ?_⟩
  rcases h.2 with h1 | ⟨g, cap, cur, h1, h2, h3, h4⟩
  · exact .inl h1
  · injection h1 with a b c
    exact .inr ⟨g, cap, cur, by rw [a, c], h2, (Below.heap_setCell w p u g (hp g a)).trans h3, h4⟩
end

/-- a block of limbs, known whole -/
def UB (t : TypeId) (w : World) (g : Nat) (L : List Nat) : Prop := w.heap[g]? = some (.cells (u32s L).toArray t (0, 0))
section
variable {t : TypeId} {w w' : World} {g : Nat} {L : List Nat}
theorem UB.cell (h : UB t w g L) {i : Nat} (hi : i < L.length) : w.cell? ⟨g, i, none⟩ = some (.int .u32 (L.getD i 0 : Nat)) := by
  rw [cell_of_row w g i _ t (0, 0) h]
  simpa using u32s_get hi
theorem UB.frozen (h : UB t w g L) (i : Nat) : w.frozen? ⟨g, i, none⟩ = false := by unfold UB at h; simp [World.frozen?, h]
theorem UB.lt (h : UB t w g L) : g < w.heap.size := (Array.getElem?_eq_some_iff.1 h).1
theorem UB.set_ (h : UB t w g L) (i x : Nat) : UB t (w.setCell ⟨g, i, none⟩ (.int .u32 (x : Int))) g (L.set i x) := by
  unfold UB at h ⊢
  rw [← u32s_set]
  simp [World.setCell, Array.getElem?_modify, h]
theorem UB.drewN (h : UB t w g L) (k : Nat) : UB t (w.drewN k) g L := h
theorem UB.own (h : UB t w g L) {B : Nat} (hB : B ≤ g) (hm : L.length ≤ maxLen) : Own t w B (some ⟨g, 0, none⟩) L.length L.length (u32s L) := by
  have := Own.of_block (xs := u32s L) h hB (by rw [u32s_length]; exact hm)
  rwa [u32s_length] at this
theorem Own.ub {B n : Nat} (h : Own t w B (some ⟨g, 0, none⟩) n n (u32s L)) : UB t w g L := by
  rcases h.2 with ⟨h1, _⟩ | ⟨g', cap, cur, h1, h2, h3, h4, h5, h6, h7⟩
  · cases h1
  · injection h1 with a b c
    injection a with a
    injection a with a
    subst a; subst c
    rw [List.take_of_length_le (by rw [Array.length_toList]; omega)] at h7
    unfold UB
    rw [h3, ← h7, Array.toArray_toList]
theorem gb_refl (w : World) (row : Option Nat) : w.grownBy w row := World.grownBy.refl w row
theorem gb_drewN {a : World} {row : Option Nat} (h : a.grownBy w row) (n : Nat) : a.grownBy (w.drewN n) row := ⟨h.os, h.tape, h.output, h.size, h.block⟩
theorem gb_setCell {a : World} (h : a.grownBy w (some g)) (i : Nat) (u : Value) : a.grownBy (w.setCell ⟨g, i, none⟩ u) (some g) :=
  ⟨h.os, h.tape, h.output, by simpa [World.setCell] using h.size, fun j hj hne => (Below.heap_setCell w ⟨g, i, none⟩ u j (by rintro rfl; exact hne rfl)).trans (h.block j hj hne)⟩
theorem gb_below {a : World} (h : a.grownBy w (some g)) {B : Nat} (hB : B ≤ g) (ha : B ≤ a.heap.size) : Below B a w :=
  ⟨h.os, h.tape, h.output, h.size, fun j hj => h.block j (by omega) (by simp; omega)⟩
theorem gb_trans {a b c : World} {row : Option Nat} (h : a.grownBy b row) (k : b.grownBy c row) : a.grownBy c row :=
  ⟨k.os.trans h.os, k.tape.trans h.tape, k.output.trans h.output, Nat.le_trans h.size k.size, fun j hj hne => (k.block j (Nat.lt_of_lt_of_le hj h.size) hne).trans (h.block j hj hne)⟩
end
end Hb
