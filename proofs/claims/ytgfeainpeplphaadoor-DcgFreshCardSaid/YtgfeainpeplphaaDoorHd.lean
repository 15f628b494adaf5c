/-
  Terms in memory: what it is that a slice holds a term's arguments. No program in sight.
-/
import Derived.WalkKit
import Derived.Lib.Hide
import Derived.Test.YtgfeainpeplphaaDoorMem
import Derived.Test.YtgfeainpeplphaaDoorHa
namespace Ht
open Go Go.RowKit Hb
/-- the six cells of a term whose arguments' slice is sl -/
def cells6 (t : Tm) (sl : Value) : List Value := [.int .i64 t.k, .string ⟨t.n.toArray⟩, .string ⟨t.m.toArray⟩, .int .u64 t.b, .int .i64 t.v, sl]
def valT (t : Tm) (sl : Value) : Value := .agg (cells6 t sl).toArray
def maxArgs : Nat := 1759218604400
def okF (t : Tm) : Prop := t.n.length ≤ maxLen ∧ t.m.length ≤ maxLen ∧ (0 ≤ t.b ∧ t.b < 18446744073709551616) ∧ (-9223372036854775808 ≤ t.v ∧ t.v ≤ 9223372036854775807) ∧ (-9223372036854775808 ≤ t.k ∧ t.k ≤ 9223372036854775807)
mutual
/-- slice sl holds the arguments of a term, in blocks that are P -/
def TAtP (w : World) (P : Nat → Prop) : Tm → Value → Prop
  | .mk k n m b v as, sl => ∃ A c, sl = .slice A as.length c ∧ as.length ≤ c ∧ c ≤ maxLen ∧ as.length ≤ maxArgs ∧ okF (.mk k n m b v as) ∧ (as ≠ [] → ∃ g o, A = some ⟨g, o, none⟩ ∧ P g ∧ TsAtP w P g as o)
def TsAtP (w : World) (P : Nat → Prop) (g : Nat) : List Tm → Nat → Prop
  | [], _ => True
  | a :: as, o => (∃ sl, (∀ j, j < 6 → w.cell? ⟨g, o + j, none⟩ = (cells6 a sl)[j]?) ∧ TAtP w P a sl) ∧ TsAtP w P g as (o + 6)
end
/-- one of a row of terms -/
def EltP (w : World) (P : Nat → Prop) (g o : Nat) (a : Tm) : Prop := ∃ sl, (∀ j, j < 6 → w.cell? ⟨g, o + j, none⟩ = (cells6 a sl)[j]?) ∧ TAtP w P a sl
theorem TsAtP.iff {w : World} {P : Nat → Prop} {g : Nat} : ∀ {as : List Tm} {o : Nat}, TsAtP w P g as o ↔ ∀ i a, as[i]? = some a → EltP w P g (o + i * 6) a
  | [], o => by simp [TsAtP]
  | a :: as, o => by
    rw [TsAtP, TsAtP.iff (as := as)]
    constructor
    · rintro ⟨h, hs⟩ i x hx
      cases i with
      | zero => cases hx; rw [Nat.zero_mul, Nat.add_zero]; exact h
      | succ i =>
        have := hs i x (by simpa using hx)
        rwa [show o + 6 + i * 6 = o + (i + 1) * 6 by omega] at this
    · intro h
      refine ⟨?_, fun i x hx => ?_⟩
      · have := h 0 a rfl
        rwa [Nat.zero_mul, Nat.add_zero] at this
      · have := h (i + 1) x (by simpa using hx)
        rwa [show o + (i + 1) * 6 = o + 6 + i * 6 by omega] at this
theorem TAtP.iff {w : World} {P : Nat → Prop} {t : Tm} {sl : Value} : TAtP w P t sl ↔ ∃ A c, sl = .slice A t.as.length c ∧ t.as.length ≤ c ∧ c ≤ maxLen ∧ t.as.length ≤ maxArgs ∧ okF t ∧ (t.as ≠ [] → ∃ g o, A = some ⟨g, o, none⟩ ∧ P g ∧ ∀ i a, t.as[i]? = some a → EltP w P g (o + i * 6) a) := by
  obtain ⟨k, n, m, b, v, as⟩ := t
  rw [TAtP]
  simp only [TsAtP.iff]
  rfl
theorem TAtP.keep (t : Tm) : ∀ {w w' : World} {P Q : Nat → Prop} {sl : Value}, TAtP w P t sl → (∀ b, P b → Q b ∧ w'.heap[b]? = w.heap[b]?) → TAtP w' Q t sl := by
  refine Tm.ind (p := fun t => ∀ {w w' : World} {P Q : Nat → Prop} {sl : Value}, TAtP w P t sl → (∀ b, P b → Q b ∧ w'.heap[b]? = w.heap[b]?) → TAtP w' Q t sl) (fun k n m b v as ih w w' P Q sl h hb => ?_) t
  rw [TAtP.iff] at h ⊢
  obtain ⟨A, c, h1, h2, h3, h4, h5, h6⟩ := h
  refine ⟨A, c, h1, h2, h3, h4, h5, fun hne => ?_⟩
  obtain ⟨g, o, e, hg, hs⟩ := h6 hne
  refine ⟨g, o, e, (hb g hg).1, fun i a ha => ?_⟩
  obtain ⟨sl', hc, ht⟩ := hs i a ha
  exact ⟨sl', fun j hj => (World.cell?_of_block (a := ⟨g, o + i * 6 + j, none⟩) (hb g hg).2).trans (hc j hj), ih a (List.mem_of_getElem? ha) ht hb⟩
/-- .. in blocks below B -/
def TAt (w : World) (B : Nat) (t : Tm) (sl : Value) : Prop := TAtP w (fun b => b < B) t sl
def EltAt (w : World) (B g o : Nat) (a : Tm) : Prop := ∃ sl, (∀ j, j < 6 → w.cell? ⟨g, o + j, none⟩ = (cells6 a sl)[j]?) ∧ TAt w B a sl
theorem TAt.iff {w : World} {B : Nat} {t : Tm} {sl : Value} : TAt w B t sl ↔ ∃ A c, sl = .slice A t.as.length c ∧ t.as.length ≤ c ∧ c ≤ maxLen ∧ t.as.length ≤ maxArgs ∧ okF t ∧ (t.as ≠ [] → ∃ g o, A = some ⟨g, o, none⟩ ∧ g < B ∧ ∀ i a, t.as[i]? = some a → EltAt w B g (o + i * 6) a) := TAtP.iff
theorem TAt.below (t : Tm) {w w' : World} {B C : Nat} {sl : Value} (h : TAt w B t sl) (hb : Below C w w') (hB : B ≤ C) : TAt w' B t sl := TAtP.keep t h (fun b hbB => ⟨hbB, hb.block b (Nat.lt_of_lt_of_le hbB hB)⟩)
theorem TAt.mono (t : Tm) {w : World} {B C : Nat} {sl : Value} (h : TAt w B t sl) (hB : B ≤ C) : TAt w C t sl := TAtP.keep t h (fun b hbB => ⟨Nat.lt_of_lt_of_le hbB hB, rfl⟩)
theorem TAt.to {w w' : World} {B : Nat} {t : Tm} {sl : Value} (h : TAt w B t sl) (hb : Below B w w') (hB : B ≤ w'.heap.size) : TAt w' w'.heap.size t sl := (TAt.below t h hb (Nat.le_refl _)).mono t hB
theorem TAt.slice {w : World} {B : Nat} {t : Tm} {sl : Value} (h : TAt w B t sl) : ∃ A c, sl = .slice A t.as.length c ∧ t.as.length ≤ c ∧ c ≤ maxLen ∧ t.as.length ≤ maxArgs := by
  obtain ⟨A, c, h1, h2, h3, h4, _⟩ := TAt.iff.1 h
  exact ⟨A, c, h1, h2, h3, h4⟩
theorem TAt.ok {w : World} {B : Nat} {t : Tm} {sl : Value} (h : TAt w B t sl) : okF t := by
  obtain ⟨A, c, h1, h2, h3, h4, h5, _⟩ := TAt.iff.1 h
  exact h5
/-- an argument -/
theorem TAt.arg {w : World} {B : Nat} {t : Tm} {A : Option Addr} {n c : Nat} (h : TAt w B t (.slice A n c)) {i : Nat} {a : Tm} (ha : t.as[i]? = some a) : ∃ g o, A = some ⟨g, o, none⟩ ∧ g < B ∧ EltAt w B g (o + i * 6) a := by
  obtain ⟨A', c', h1, h2, h3, h4, h5, h6⟩ := TAt.iff.1 h
  injection h1 with e1 e2 e3
  subst e1
  obtain ⟨g, o, e, hg, hs⟩ := h6 (fun e => by rw [e] at ha; simp at ha)
  exact ⟨g, o, e, hg, hs i a ha⟩
/-- a term without arguments -/
theorem TAt.leaf (w : World) (B : Nat) {t : Tm} {A : Option Addr} {c : Nat} (h : t.as = []) (hc : c ≤ maxLen) (ho : okF t) : TAt w B t (.slice A 0 c) := by
  rw [TAt.iff]
  refine ⟨A, c, by rw [h]; rfl, by rw [h]; exact Nat.zero_le _, hc, by rw [h]; exact Nat.zero_le _, ho, fun hne => absurd h hne⟩
/-- a term that came in: its letters -/
theorem TAtP.letters {w : World} {P : Nat → Prop} {t : Tm} {sl : Value} (h : TAtP w P t sl) : ∃ k n m b v ts nb mb A c, t = .mk k n m b v ts ∧ sl = .slice A ts.length c ∧ (⟨n.toArray⟩ : ByteArray) = nb ∧ (⟨m.toArray⟩ : ByteArray) = mb ∧ ts.length ≤ c ∧ c ≤ maxLen ∧ ts.length ≤ maxArgs ∧ valT t sl = .agg #[.int .i64 k, .string nb, .string mb, .int .u64 b, .int .i64 v, .slice A ts.length c] ∧ nb.size ≤ maxLen ∧ mb.size ≤ maxLen := by
  obtain ⟨A, c, rfl, hl1, hl2, hl3, ho, _⟩ := TAtP.iff.1 h
  obtain ⟨k, n, m, b, v, ts⟩ := t
  exact ⟨k, n, m, b, v, ts, _, _, A, c, rfl, rfl, rfl, rfl, hl1, hl2, hl3, rfl, by show n.toArray.size ≤ _; rw [List.size_toArray]; exact ho.1, by show m.toArray.size ≤ _; rw [List.size_toArray]; exact ho.2.1⟩
theorem TAt.letters {w : World} {B : Nat} {t : Tm} {sl : Value} (h : TAt w B t sl) : ∃ k n m b v ts nb mb A c, t = .mk k n m b v ts ∧ sl = .slice A ts.length c ∧ (⟨n.toArray⟩ : ByteArray) = nb ∧ (⟨m.toArray⟩ : ByteArray) = mb ∧ ts.length ≤ c ∧ c ≤ maxLen ∧ ts.length ≤ maxArgs ∧ valT t sl = .agg #[.int .i64 k, .string nb, .string mb, .int .u64 b, .int .i64 v, .slice A ts.length c] ∧ nb.size ≤ maxLen ∧ mb.size ≤ maxLen := TAtP.letters h
theorem TAtP.below {w w' : World} {P : Nat → Prop} {t : Tm} {sl : Value} (h : TAtP w P t sl) (hb : Below w.heap.size w w') (hP : ∀ b, P b → b < w.heap.size) : TAtP w' P t sl := TAtP.keep t h (fun b hp => ⟨hp, hb.block b (hP b hp)⟩)
theorem TAtP.wide {w : World} {P Q : Nat → Prop} {t : Tm} {sl : Value} (h : TAtP w P t sl) (hP : ∀ b, P b → Q b) : TAtP w Q t sl := TAtP.keep t h (fun b hp => ⟨hP b hp, rfl⟩)
theorem TAtP.at_ {w : World} {P : Nat → Prop} {t : Tm} {sl : Value} (h : TAtP w P t sl) (hP : ∀ b, P b → b < w.heap.size) : TAt w w.heap.size t sl := h.wide hP
theorem TAtP.ok {w : World} {P : Nat → Prop} {t : Tm} {sl : Value} (h : TAtP w P t sl) : okF t := by
  obtain ⟨A, c, h1, h2, h3, h4, h5, _⟩ := TAtP.iff.1 h
  exact h5
theorem TAt.boxed {w : World} {t : Tm} {sl : Value} (h : TAt w w.heap.size t sl) (o : Obj) : TAt (w.alloc o) (w.alloc o).heap.size t sl := h.to ((Below.refl _ _).alloc (Nat.le_refl _) _) (by simp)
end Ht
