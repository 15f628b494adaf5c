import Derived.Test.YtpikjceodmepiaaGreatDoorYzb
import Derived.Test.YtpikjceodmepiaaGreatDoorQallb
import Derived.Deep.AppendLies
import Derived.Maps.AppendAt
import Derived.Deep.OwnRows
set_option linter.unusedVariables false
set_option linter.unusedSimpArgs false
namespace Go.Proofs.YtpikjceodmepiaaGreatDoor
open Go.RowKit Hb Hf
set_option linter.unusedVariables false
set_option linter.unusedSimpArgs false
/-! ### ends and ranges in memory -/
/-- the slice at A reads as limbs l; it lies in a block that is P -/
structure LimP (w : World) (P : Nat → Prop) (A : Option Addr) (n c : Nat) (l : List Nat) : Prop where
  len : l.length = n
  cap : n ≤ c
  max : c ≤ maxLen
  dig : Dig 4294967296 l
  rd : l ≠ [] → ∃ b o, A = some ⟨b, o, none⟩ ∧ P b ∧ ∀ i v, (u32s l)[i]? = some v → w.cell? ⟨b, o + i, none⟩ = some v
section
variable {w w' : World} {P Q : Nat → Prop} {A : Option Addr} {n c B : Nat} {l : List Nat}
theorem LimP.keep (h : LimP w P A n c l) (hb : ∀ b, P b → Q b ∧ w'.heap[b]? = w.heap[b]?) : LimP w' Q A n c l :=
  ⟨h.len, h.cap, h.max, h.dig, fun hl => by
    obtain ⟨b, o, e, hp, hc⟩ := h.rd hl
    exact ⟨b, o, e, (hb b hp).1, fun i v hv => (World.cell?_of_block (a := ⟨b, o + i, none⟩) (hb b hp).2).trans (hc i v hv)⟩⟩
theorem LimP.wide (h : LimP w P A n c l) (hb : ∀ b, P b → Q b) : LimP w Q A n c l := h.keep fun b hp => ⟨hb b hp, rfl⟩
theorem u32s_nil_iff {l : List Nat} : u32s l ≠ [] ↔ l ≠ [] := by cases l <;> simp [u32s]
theorem LimP.sl (h : LimP w P A n c l) (hb : ∀ b, P b → b < B) : SlU w B A n c l :=
  ⟨h.len, h.cap, h.max, h.dig, fun hx => by
    obtain ⟨b, o, e, hp, hc⟩ := h.rd (u32s_nil_iff.1 hx)
    exact ⟨b, o, e, hb b hp, hc⟩⟩
theorem LimP.of_sl (h : SlU w B A n c l) : LimP w (fun b => b < B) A n c l :=
  ⟨h.len, h.cap, h.max, h.dig, fun hx => h.rd (u32s_nil_iff.2 hx)⟩
theorem LimP.of_own (h : OwnU w B A n c (u32s l)) (hd : Dig 4294967296 l) : LimP w (fun b => B ≤ b ∧ b < w.heap.size) A n c l := by
  have hl : l.length = n := by rw [← u32s_length]; exact h.length
  refine ⟨hl, h.cap.1, h.cap.2, hd, fun hx => ?_⟩
  have hn : 0 < n := by rw [← hl]; exact List.length_pos_iff.2 hx
  obtain ⟨g, rfl, h1, h2⟩ := h.at_ hn
  refine ⟨g, 0, rfl, ⟨h1, h2⟩, fun i v hi => ?_⟩
  have := World.ownsRow.cells h (g := g) rfl i v hi
  rw [add_zero' g i] at this
  rw [Nat.zero_add]; exact this
theorem LimP.nil (w : World) (P : Nat → Prop) (A : Option Addr) {c : Nat} (hc : c ≤ maxLen) : LimP w P A 0 c [] := ⟨rfl, Nat.zero_le _, hc, Dig.nil _, fun h => absurd rfl h⟩
end
/-- an end, as it stands: three cells, and the limbs that the slice reads -/
structure Bd where
  i : Int
  g : Bool
  A : Option Addr
  n : Nat
  c : Nat
  l : List Nat
abbrev Rg := Bd × Bd
def Bd.vals (b : Bd) : List Value := [.int .i64 b.i, .bool b.g, .slice b.A b.n b.c]
def Bd.v (b : Bd) : Value := .agg b.vals.toArray
def Bd.z (b : Bd) : Int := ival b.g b.l
def Bd.ed (b : Bd) : Ed := if b.i < 0 then .lo else if 0 < b.i then .hi else .num b.z
structure Bd.At (w : World) (P : Nat → Prop) (b : Bd) : Prop where
  lim : LimP w P b.A b.n b.c b.l
  r1 : -9223372036854775808 ≤ b.i
  r2 : b.i ≤ 9223372036854775807
/-- its number of limbs is one that can be reckoned with -/
def Bd.Sm (b : Bd) : Prop := b.n ≤ 33554432
/-- -1, 0, 1 stands ahead -/
def Bd.Tri (b : Bd) : Prop := b.i = -1 ∨ b.i = 0 ∨ b.i = 1
/-- normal: no sign of nought, no limbs of what is no number, no noughts at the high end -/
structure Bd.Nrm (b : Bd) : Prop where
  tri : b.Tri
  out : b.i ≠ 0 → b.l = [] ∧ b.g = false
  dig : b.l = digs W b.z.natAbs ∧ b.g = decide (b.z < 0)
section
variable {w w' : World} {P Q : Nat → Prop} {b : Bd}
theorem Bd.At.keep (h : b.At w P) (hb : ∀ x, P x → Q x ∧ w'.heap[x]? = w.heap[x]?) : b.At w' Q := ⟨h.lim.keep hb, h.r1, h.r2⟩
theorem Bd.At.wide (h : b.At w P) (hb : ∀ x, P x → Q x) : b.At w Q := h.keep fun x hp => ⟨hb x hp, rfl⟩
theorem Bd.ed_zero (h : b.i = 0) : b.ed = .num b.z := by simp [Bd.ed, h]
theorem Bd.ed_lo (h : b.i < 0) : b.ed = .lo := by simp [Bd.ed, h]
theorem Bd.ed_hi (h : 0 < b.i) : b.ed = .hi := by simp [Bd.ed, h, show ¬ b.i < 0 by omega]
end
structure Rg.At (w : World) (P : Nat → Prop) (p : Rg) : Prop where
  a : p.1.At w P
  b : p.2.At w P
theorem Rg.At.keep {w w' : World} {P Q : Nat → Prop} {p : Rg} (h : Rg.At w P p) (hb : ∀ x, P x → Q x ∧ w'.heap[x]? = w.heap[x]?) : Rg.At w' Q p := ⟨h.a.keep hb, h.b.keep hb⟩
def edsR (p : Rg) : R := (p.1.ed, p.2.ed)
def cells6 (p : Rg) : List Value := p.1.vals ++ p.2.vals
def rgV (p : Rg) : Value := .agg (cells6 p).toArray
theorem cells6_eq (i : Int) (g : Bool) (A : Option Addr) (n c : Nat) (l : List Nat) (i' : Int) (g' : Bool) (A' : Option Addr) (n' c' : Nat) (l' : List Nat) :
    cells6 (⟨i, g, A, n, c, l⟩, ⟨i', g', A', n', c', l'⟩) = [.int .i64 i, .bool g, .slice A n c, .int .i64 i', .bool g', .slice A' n' c'] := rfl
/-- the cells of a row of ranges -/
def fl6 (ps : List Rg) : List Value := ps.flatMap cells6
theorem fl6_length (ps : List Rg) : (fl6 ps).length = ps.length * 6 := by
  induction ps with
  | nil => rfl
  | cons p ps ih =>
    have e : fl6 (p :: ps) = cells6 p ++ fl6 ps := by simp [fl6]
    rw [e, List.length_append, ih, List.length_cons]
    show 6 + _ = _
    omega
theorem fl6_append (ps qs : List Rg) : fl6 (ps ++ qs) = fl6 ps ++ fl6 qs := by simp [fl6]
theorem fl6_get {ps : List Rg} {i j : Nat} {p : Rg} (hi : ps[i]? = some p) (hj : j < 6) : (fl6 ps)[i * 6 + j]? = (cells6 p)[j]? := by
  induction ps generalizing i with
  | nil => simp at hi
  | cons q ps ih =>
    have e : fl6 (q :: ps) = cells6 q ++ fl6 ps := by simp [fl6]
    have hl : (cells6 q).length = 6 := rfl
    rw [e]
    cases i with
    | zero => cases hi; rw [List.getElem?_append_left (by omega)]; simp
    | succ i =>
      rw [List.getElem?_append_right (by omega), show (i + 1) * 6 + j - (cells6 q).length = i * 6 + j by omega]
      exact ih (by simpa using hi)
theorem fl6_one (ps : List Rg) : ∀ u ∈ fl6 ps, u.oneCell' = true := by
  intro u hu
  obtain ⟨p, hp, hy⟩ := List.mem_flatMap.1 hu
  simp [cells6, Bd.vals] at hy
  rcases hy with rfl | rfl | rfl | rfl | rfl | rfl <;> rfl
/-! ### rows -/
/-- a slice that reads as ranges, in a block that is P -/
structure RdR (w : World) (P : Nat → Prop) (A : Option Addr) (n c : Nat) (ps : List Rg) : Prop where
  len : ps.length = n
  cap : n ≤ c
  max : c ≤ maxLen
  rd : ps ≠ [] → ∃ b o, A = some ⟨b, o, none⟩ ∧ P b ∧ ∀ i v, (fl6 ps)[i]? = some v → w.cell? ⟨b, o + i, none⟩ = some v
theorem RdR.keep {w w' : World} {P Q : Nat → Prop} {A : Option Addr} {n c : Nat} {ps : List Rg} (h : RdR w P A n c ps) (hb : ∀ b, P b → Q b ∧ w'.heap[b]? = w.heap[b]?) : RdR w' Q A n c ps :=
  ⟨h.len, h.cap, h.max, fun hl => by
    obtain ⟨b, o, e, hp, hc⟩ := h.rd hl
    exact ⟨b, o, e, (hb b hp).1, fun i v hv => (World.cell?_of_block (a := ⟨b, o + i, none⟩) (hb b hp).2).trans (hc i v hv)⟩⟩
/-- a set that came in: the row, and what its ranges' slices read -/
structure SetP (w : World) (P : Nat → Prop) (A : Option Addr) (n c : Nat) (ps : List Rg) : Prop where
  row : RdR w P A n c ps
  kid : ∀ p ∈ ps, Rg.At w P p
theorem SetP.keep {w w' : World} {P Q : Nat → Prop} {A : Option Addr} {n c : Nat} {ps : List Rg} (h : SetP w P A n c ps) (hb : ∀ b, P b → Q b ∧ w'.heap[b]? = w.heap[b]?) : SetP w' Q A n c ps :=
  ⟨h.row.keep hb, fun p hp => (h.kid p hp).keep hb⟩
theorem SetP.below {w w' : World} {P : Nat → Prop} {A : Option Addr} {n c B : Nat} {ps : List Rg} (h : SetP w P A n c ps) (hb : Below B w w') (hP : ∀ b, P b → b < B) : SetP w' P A n c ps := h.keep fun b hp => ⟨hp, hb.block b (hP b hp)⟩
theorem SetP.wide {w : World} {P Q : Nat → Prop} {A : Option Addr} {n c : Nat} {ps : List Rg} (h : SetP w P A n c ps) (hb : ∀ b, P b → Q b) : SetP w Q A n c ps := h.keep fun b hp => ⟨hb b hp, rfl⟩
/-- one of a row: its six cells -/
theorem RdR.at_ {w : World} {P : Nat → Prop} {A : Option Addr} {n c : Nat} {ps : List Rg} (h : RdR w P A n c ps) {k : Nat} {p : Rg} (hk : ps[k]? = some p) : ∃ b o, A = some ⟨b, o, none⟩ ∧ P b ∧
    w.cell? ⟨b, o + k * 6, none⟩ = some (.int .i64 p.1.i) ∧ w.cell? ⟨b, o + k * 6 + 1, none⟩ = some (.bool p.1.g) ∧ w.cell? ⟨b, o + k * 6 + 2, none⟩ = some (.slice p.1.A p.1.n p.1.c) ∧
    w.cell? ⟨b, o + k * 6 + 3, none⟩ = some (.int .i64 p.2.i) ∧ w.cell? ⟨b, o + k * 6 + 4, none⟩ = some (.bool p.2.g) ∧ w.cell? ⟨b, o + k * 6 + 5, none⟩ = some (.slice p.2.A p.2.n p.2.c) := by
  obtain ⟨b, o, e, hp, hc⟩ := h.rd (fun e => by rw [e] at hk; simp at hk)
  have key : ∀ j u, j < 6 → (cells6 p)[j]? = some u → w.cell? ⟨b, o + k * 6 + j, none⟩ = some u := fun j u hj hu => by
    have := hc (k * 6 + j) u ((fl6_get hk hj).trans hu)
    rwa [← Nat.add_assoc] at this
  exact ⟨b, o, e, hp, key 0 _ (by omega) rfl, key 1 _ (by omega) rfl, key 2 _ (by omega) rfl, key 3 _ (by omega) rfl, key 4 _ (by omega) rfl, key 5 _ (by omega) rfl⟩
theorem infoR : (Tryz.prog.info? 69).map (fun i => (i.zero, i.size, i.bytes)) = some (some (.agg #[.int .i64 0, .bool false, .slice none 0 0, .int .i64 0, .bool false, .slice none 0 0]), 6, 80) := by kernel_rfl
def maxRg : Nat := 1759218604400
/-- a slice of the call's own, from block B on: ranges, whose limbs lie in blocks that are P, none of them its own -/
structure RRow (w : World) (B : Nat) (P : Nat → Prop) (A : Option Addr) (n c : Nat) (ps : List Rg) : Prop where
  own : w.ownsRow B 69 6 (.slice A n c) n (fl6 ps)
  kid : ∀ p ∈ ps, Rg.At w (fun b => P b ∧ (Value.slice A n c).ownBlock ≠ some b) p
section
variable {w w' : World} {B : Nat} {P : Nat → Prop} {A : Option Addr} {n c : Nat} {ps : List Rg}
theorem RRow.len (h : RRow w B P A n c ps) : ps.length = n := by have := h.own.1; rw [fl6_length] at this; omega
theorem RRow.cap (h : RRow w B P A n c ps) : n ≤ c ∧ c ≤ maxLen := by
  rcases h.own.2 with ⟨h1, _⟩ | ⟨g, cap, cur, h1, h2, h3, h4, h5, _⟩
  · injection h1 with a b c; subst b; subst c; exact ⟨Nat.le_refl _, by simp [maxLen]⟩
  · injection h1 with a b c; subst c; exact ⟨h4, h5⟩
theorem RRow.nil (w : World) (B : Nat) (P : Nat → Prop) : RRow w B P none 0 0 [] := ⟨⟨rfl, .inl ⟨rfl, rfl⟩⟩, fun p hp => by cases hp⟩
/-- its own block -/
theorem RRow.block (h : RRow w B P A n c ps) : (A = none ∧ n = 0) ∨ ∃ g, A = some ⟨g, 0, none⟩ ∧ B ≤ g ∧ g < w.heap.size ∧ (Value.slice A n c).ownBlock = some g := by
  rcases h.own.2 with ⟨h1, _⟩ | ⟨g, cap, cur, h1, h2, h3, _⟩
  · injection h1 with a b c; exact .inl ⟨a, b⟩
  · injection h1 with a b c
    subst a
    exact .inr ⟨g, rfl, h2, (Array.getElem?_eq_some_iff.1 h3).1, rfl⟩
theorem RRow.wide {Q : Nat → Prop} (h : RRow w B P A n c ps) (hP : ∀ b, P b → Q b) : RRow w B Q A n c ps :=
  ⟨h.own, fun p hp => (h.kid p hp).keep (fun b hb2 => ⟨⟨hP b hb2.1, hb2.2⟩, rfl⟩)⟩
theorem RRow.lower {B' : Nat} (h : RRow w B P A n c ps) (hB : B' ≤ B) : RRow w B' P A n c ps := by
  refine ⟨⟨h.own.1, ?_⟩, h.kid⟩
  rcases h.own.2 with h1 | ⟨g, cap, cur, h1, h2, h3⟩
  · exact .inl h1
  · exact .inr ⟨g, cap, cur, h1, Nat.le_trans hB h2, h3⟩
theorem RRow.keepP (h : RRow w B P A n c ps) (hb : ∀ b, B ≤ b → b < w.heap.size → w'.heap[b]? = w.heap[b]?) (hP : ∀ b, P b → w'.heap[b]? = w.heap[b]?) : RRow w' B P A n c ps := by
  refine ⟨⟨h.own.1, ?_⟩, fun p hp => (h.kid p hp).keep (fun b hb2 => ⟨hb2, hP b hb2.1⟩)⟩
  rcases h.own.2 with h1 | ⟨g, cap, cur, h1, h2, h3, h4⟩
  · exact .inl h1
  · exact .inr ⟨g, cap, cur, h1, h2, (hb g h2 (Array.getElem?_eq_some_iff.1 h3).1).trans h3, h4⟩
theorem RRow.keep (h : RRow w B P A n c ps) (hb : Below w.heap.size w w') (hP : ∀ b, P b → b < w.heap.size) : RRow w' B P A n c ps :=
  h.keepP (fun b _ hb2 => hb.block b hb2) (fun b hp => hb.block b (hP b hp))
/-- it reads as a set -/
theorem RRow.set (h : RRow w B P A n c ps) (hP : ∀ b, B ≤ b → b < w.heap.size → P b) : SetP w P A n c ps := by
  refine ⟨⟨h.len, h.cap.1, h.cap.2, fun hl => ?_⟩, fun p hp => (h.kid p hp).keep fun b hb => ⟨hb.1, rfl⟩⟩
  have hn0 : 0 < n := by rw [← h.len]; exact List.length_pos_iff.2 hl
  rcases h.block with ⟨_, h0⟩ | ⟨g, rfl, hB, hg, _⟩
  · omega
  · refine ⟨g, 0, rfl, hP g hB hg, fun i v hv => ?_⟩
    have h9 := World.ownsRow.cells h.own (g := g) rfl _ _ hv
    rw [add_zero'] at h9
    rw [Nat.zero_add]
    exact h9
end
/-- append of ranges, at a step of a drawn region -/
theorem run_append_R {w : World} {B : Nat} {P : Nat → Prop} {A : Option Addr} {n c : Nat} {ps qs : List Rg} (h : RRow w B P A n c ps) (hP : ∀ b, P b → b < w.heap.size) {ad : Addr} {m : Nat} (hq : qs.length = m)
    (hk : ∀ q ∈ qs, Rg.At w (fun b => P b ∧ (Value.slice A n c).ownBlock ≠ some b) q) (hnews : ∀ j u, (fl6 qs)[j]? = some u → w.cell? (ad.add j) = some u) (hm : n + m ≤ maxRg) (hb : B ≤ w.heap.size)
    {v' : Value} {w' : World} (ho : w'.ownsRow B 69 6 v' (n + m) (fl6 ps ++ fl6 qs)) (hg : w.grownBy w' (Value.slice A n c).ownBlock) (hv : v'.ownBlock = (Value.slice A n c).ownBlock ∨ v'.ownBlock = some w.heap.size) :
    ∃ A' c', v' = .slice A' (n + m) c' ∧ RRow w' B P A' (n + m) c' (ps ++ qs) ∧ Below B w w' := by
  have hf : ∃ A' c', v' = .slice A' (n + m) c' := by
    rcases ho.2 with ⟨h1, h2⟩ | ⟨g', cap, cur, h1, _⟩
    · exact ⟨none, 0, by rw [h1, h2]⟩
    · exact ⟨_, cap, h1⟩
  obtain ⟨A', c', rfl⟩ := hf
  refine ⟨A', c', rfl, ⟨by rw [fl6_append]; exact ho, fun p hp => ?_⟩, ⟨hg.os, hg.tape, hg.output, hg.size, fun j hj => hg.block j (Nat.lt_of_lt_of_le hj hb) (fun e2 => ?_)⟩⟩
  · have hkid : Rg.At w (fun b => P b ∧ (Value.slice A n c).ownBlock ≠ some b) p := by
      rcases List.mem_append.1 hp with hp | hp
      · exact h.kid p hp
      · exact hk p hp
    refine hkid.keep (fun b hb2 => ⟨⟨hb2.1, ?_⟩, hg.block b (hP b hb2.1) (fun e => hb2.2 e.symm)⟩)
    rcases hv with hv | hv
    · rw [hv]; exact hb2.2
    · rw [hv]; intro e; have := hP b hb2.1; injection e with e; omega
  · rcases h.block with ⟨h1, _⟩ | ⟨g, h1, h2, h3, h4⟩
    · subst h1; simp [Value.ownBlock] at e2
    · rw [h4] at e2; injection e2 with e2; omega
theorem wpList_append_R {ops : Array Oper} {rest : List Oper} {o : Oper} {a : Act} {Q : Exit → Act → World → Prop} {w : World} (hgd : o.guard = none) (s x : Operand)
    (ho : o.op = .call { callee := .builtin .append, args := #[s, x], argTypes := #[22, 22] })
    {B : Nat} {P : Nat → Prop} {A : Option Addr} {n c : Nat} {ps : List Rg} (qs : List Rg) (hs : a.eval s = .slice A n c) (h : RRow w B P A n c ps) (hP : ∀ b, P b → b < w.heap.size)
    (ad : Addr) (m c2 : Nat) (hx : a.eval x = .slice (some ad) m c2) (hq : qs.length = m) (hk : ∀ q ∈ qs, Rg.At w (fun b => P b ∧ (Value.slice A n c).ownBlock ≠ some b) q) (hnews : ∀ j u, (fl6 qs)[j]? = some u → w.cell? (ad.add j) = some u)
    (hm : n + m ≤ maxRg) (hb : B ≤ w.heap.size)
    (hh : ∀ A' c' w', RRow w' B P A' (n + m) c' (ps ++ qs) → Below B w w' → w.grownBy w' (Value.slice A n c).ownBlock → wpList Tryz.prog ops Q rest (a.put o.dst (.slice A' (n + m) c')) w') :
    wpList Tryz.prog ops Q (o :: rest) a w := by
  obtain ⟨i0, hi, hz0, hz1, hz2⟩ := info_parts infoR
  have hml : n + m ≤ maxLen := by unfold maxLen; unfold maxRg at hm; omega
  have hmb : (n + m) * 80 ≤ 140737488355328 := by unfold maxRg at hm; omega
  refine wpList_append_own_at _ hgd s x 22 ho B 69 i0 (.agg #[.int .i64 0, .bool false, .slice none 0 0, .int .i64 0, .bool false, .slice none 0 0]) 6 80 Tryz.underlying22 hi hz0 hz1 hz2 rfl (by decide) _ n (fl6 ps) hs h.own ad m c2 (fl6 qs) hx (by rw [fl6_length, hq]) hnews (fl6_one qs) hml hmb hb ?_
  intro v' w' ho' hg _ hv
  obtain ⟨A', c', rfl, hr, hbw⟩ := run_append_R h hP hq hk hnews hm hb ho' hg hv
  exact hh A' c' w' hr hbw hg
theorem step_append_R {o : Oper} {a : Act} {w : World} {K : Act → World → Prop} {Q : Exit → Act → World → Prop} (hgd : o.guard = none) (s x : Operand)
    (ho : o.op = .call { callee := .builtin .append, args := #[s, x], argTypes := #[22, 22] })
    {B : Nat} {P : Nat → Prop} {A : Option Addr} {n c : Nat} {ps : List Rg} (qs : List Rg) (hs : a.eval s = .slice A n c) (h : RRow w B P A n c ps) (hP : ∀ b, P b → b < w.heap.size)
    (ad : Addr) (m c2 : Nat) (hx : a.eval x = .slice (some ad) m c2) (hq : qs.length = m) (hk : ∀ q ∈ qs, Rg.At w (fun b => P b ∧ (Value.slice A n c).ownBlock ≠ some b) q) (hnews : ∀ j u, (fl6 qs)[j]? = some u → w.cell? (ad.add j) = some u)
    (hm : n + m ≤ maxRg) (hb : B ≤ w.heap.size)
    (hh : ∀ A' c' w', RRow w' B P A' (n + m) c' (ps ++ qs) → Below B w w' → w.grownBy w' (Value.slice A n c).ownBlock → K (a.put o.dst (.slice A' (n + m) c')) w') :
    Oper.wp Tryz.prog o a w K Q := by
  obtain ⟨i0, hi, hz0, hz1, hz2⟩ := info_parts infoR
  have hml : n + m ≤ maxLen := by unfold maxLen; unfold maxRg at hm; omega
  have hmb : (n + m) * 80 ≤ 140737488355328 := by unfold maxRg at hm; omega
  obtain ⟨v', w', hr, h2, h3, h4, h5⟩ := run_append_own_at (P := Tryz.prog) w B 22 o.type 69 i0 (.agg #[.int .i64 0, .bool false, .slice none 0 0, .int .i64 0, .bool false, .slice none 0 0]) 6 80 Tryz.underlying22 hi hz0 hz1 hz2 rfl (by decide) (.slice A n c) n (fl6 ps) h.own ad m c2 (fl6 qs) (by rw [fl6_length, hq]) hnews (fl6_one qs) hml hmb hb
  obtain ⟨A', c', rfl, hr2, hbw⟩ := run_append_R h hP hq hk hnews hm hb h2 h3 h5
  unfold Oper.wp execOp
  simp only [ho, resolve, invoke, builtin, Sem.run_bind, Sem.run_pure, Result.andThen_ok, List.map_toArray, List.map_cons, List.map_nil, hs, hx, hr]
  exact hh _ _ _ hr2 hbw h3
/-! ### boxes -/
def RBox (w : World) (g : Nat) (p : Rg) : Prop := w.heap[g]? = some (.cells (cells6 p).toArray 69 (0, 0))
def EBox (w : World) (g : Nat) (b : Bd) : Prop := w.heap[g]? = some (.cells b.vals.toArray 67 (0, 0))
section
variable {w w' : World} {g : Nat} {p q : Rg} {b d : Bd}
theorem RBox.lt (h : RBox w g p) : g < w.heap.size := (Array.getElem?_eq_some_iff.1 h).1
theorem EBox.lt (h : EBox w g b) : g < w.heap.size := (Array.getElem?_eq_some_iff.1 h).1
theorem RBox.below (h : RBox w g p) (hb : Below w.heap.size w w') : RBox w' g p := (hb.block g h.lt).trans h
theorem EBox.below (h : EBox w g b) (hb : Below w.heap.size w w') : EBox w' g b := (hb.block g h.lt).trans h
theorem RBox.far (h : RBox w g p) {x : Addr} (hp : g ≠ x.block) (u : Value) : RBox (w.setCell x u) g p := (Below.heap_setCell w x u g hp).trans h
theorem EBox.far (h : EBox w g b) {x : Addr} (hp : g ≠ x.block) (u : Value) : EBox (w.setCell x u) g b := (Below.heap_setCell w x u g hp).trans h
theorem RBox.gro {N : Nat} (h : RBox w g p) (hg : w.grownBy w' (some N)) (hn : g ≠ N) : RBox w' g p := (hg.block g h.lt (fun e => by injection e with e; exact hn e)).trans h
theorem EBox.gro {N : Nat} (h : EBox w g b) (hg : w.grownBy w' (some N)) (hn : g ≠ N) : EBox w' g b := (hg.block g h.lt (fun e => by injection e with e; exact hn e)).trans h
theorem RBox.new (w : World) (p : Rg) : RBox (w.alloc (.cells (cells6 p).toArray 69)) w.heap.size p := heap_alloc_new w _
theorem EBox.new (w : World) (b : Bd) : EBox (w.alloc (.cells b.vals.toArray 67)) w.heap.size b := heap_alloc_new w _
theorem RBox.cells (h : RBox w g p) : w.cell? ⟨g, 0, none⟩ = some (.int .i64 p.1.i) ∧ w.cell? ⟨g, 1, none⟩ = some (.bool p.1.g) ∧ w.cell? ⟨g, 2, none⟩ = some (.slice p.1.A p.1.n p.1.c) ∧
    w.cell? ⟨g, 3, none⟩ = some (.int .i64 p.2.i) ∧ w.cell? ⟨g, 4, none⟩ = some (.bool p.2.g) ∧ w.cell? ⟨g, 5, none⟩ = some (.slice p.2.A p.2.n p.2.c) := by
  refine ⟨?_, ?_, ?_, ?_, ?_, ?_⟩ <;> (rw [cell_of_row w g _ _ _ (0, 0) h]; rfl)
theorem EBox.cells (h : EBox w g b) : w.cell? ⟨g, 0, none⟩ = some (.int .i64 b.i) ∧ w.cell? ⟨g, 1, none⟩ = some (.bool b.g) ∧ w.cell? ⟨g, 2, none⟩ = some (.slice b.A b.n b.c) := by
  refine ⟨?_, ?_, ?_⟩ <;> (rw [cell_of_row w g _ _ _ (0, 0) h]; rfl)
theorem RBox.frozen (h : RBox w g p) (j : Nat) : w.frozen? ⟨g, j, none⟩ = false := by unfold RBox at h; simp [World.frozen?, h]
theorem EBox.frozen (h : EBox w g b) (j : Nat) : w.frozen? ⟨g, j, none⟩ = false := by unfold EBox at h; simp [World.frozen?, h]
theorem RBox.frozens (h : RBox w g p) : w.frozen? ⟨g, 0, none⟩ = false ∧ w.frozen? ⟨g, 1, none⟩ = false ∧ w.frozen? ⟨g, 2, none⟩ = false ∧ w.frozen? ⟨g, 3, none⟩ = false ∧ w.frozen? ⟨g, 4, none⟩ = false ∧ w.frozen? ⟨g, 5, none⟩ = false :=
  ⟨h.frozen 0, h.frozen 1, h.frozen 2, h.frozen 3, h.frozen 4, h.frozen 5⟩
theorem EBox.frozens (h : EBox w g b) : w.frozen? ⟨g, 0, none⟩ = false ∧ w.frozen? ⟨g, 1, none⟩ = false ∧ w.frozen? ⟨g, 2, none⟩ = false := ⟨h.frozen 0, h.frozen 1, h.frozen 2⟩
theorem EBox.set3 (h : EBox w g b) (d : Bd) :
    EBox (((w.setCell ⟨g, 0, none⟩ (.int .i64 d.i)).setCell ⟨g, 1, none⟩ (.bool d.g)).setCell ⟨g, 2, none⟩ (.slice d.A d.n d.c)) g d ∧
    w.grownBy (((w.setCell ⟨g, 0, none⟩ (.int .i64 d.i)).setCell ⟨g, 1, none⟩ (.bool d.g)).setCell ⟨g, 2, none⟩ (.slice d.A d.n d.c)) (some g) := by
  refine ⟨?_, gb_setCell (gb_setCell (gb_setCell (gb_refl _ _) _ _) _ _) _ _⟩
  unfold EBox at h ⊢
  simp [World.setCell, Array.getElem?_modify, h, Bd.vals]
theorem RBox.set6 (h : RBox w g p) (q : Rg) :
    RBox ((((((w.setCell ⟨g, 0, none⟩ (.int .i64 q.1.i)).setCell ⟨g, 1, none⟩ (.bool q.1.g)).setCell ⟨g, 2, none⟩ (.slice q.1.A q.1.n q.1.c)).setCell ⟨g, 3, none⟩ (.int .i64 q.2.i)).setCell ⟨g, 4, none⟩ (.bool q.2.g)).setCell ⟨g, 5, none⟩ (.slice q.2.A q.2.n q.2.c)) g q ∧
    w.grownBy ((((((w.setCell ⟨g, 0, none⟩ (.int .i64 q.1.i)).setCell ⟨g, 1, none⟩ (.bool q.1.g)).setCell ⟨g, 2, none⟩ (.slice q.1.A q.1.n q.1.c)).setCell ⟨g, 3, none⟩ (.int .i64 q.2.i)).setCell ⟨g, 4, none⟩ (.bool q.2.g)).setCell ⟨g, 5, none⟩ (.slice q.2.A q.2.n q.2.c)) (some g) := by
  refine ⟨?_, gb_setCell (gb_setCell (gb_setCell (gb_setCell (gb_setCell (gb_setCell (gb_refl _ _) _ _) _ _) _ _) _ _) _ _) _ _⟩
  unfold RBox at h ⊢
  simp [World.setCell, Array.getElem?_modify, h, Bd.vals, cells6]
end
end Go.Proofs.YtpikjceodmepiaaGreatDoor

