/-
  A map of operators by their names in memory, as the part of one class of a table that is a list.
-/
import Derived.WalkKit
import Derived.Maps.OwnSet
import Derived.Below
import Derived.StringKeys
import Derived.Test.YtfdcponamkfcaaaDoorOs
namespace Ho
open Go Go.Maps Go.WideMaps Go.RowKit
def opD (x : OpV) : DataW Unit := .agg [.lit (.string x.n), .lit (.int .i64 x.t), .lit (.int .i64 x.p)]
def opV (x : OpV) : Value := .agg #[.string ⟨x.n.toArray⟩, .int .i64 x.t, .int .i64 x.p]
def opR (v : Value) : Option (DataW Unit × List MemPlace) :=
  match v with
  | .agg xs => match xs.toList with
    | [.string s, .int .i64 t, .int .i64 p] => some (.agg [.lit (.string s.data.toList), .lit (.int .i64 t), .lit (.int .i64 p)], [])
    | _ => none
  | _ => none
theorem opR_mk (x : OpV) : opR (opV x) = some (opD x, []) := by
  simp [opR, opV, opD]
theorem opR_inv {v : Value} {x : OpV} {ps : List MemPlace} (h : opR v = some (opD x, ps)) : v = opV x := by
  unfold opR at h
  split at h
  · rename_i xs
    split at h
    · rename_i s t p hx
      have e := congrArg Prod.fst (Option.some.inj h)
      simp only [opD, DataW.agg.injEq, List.cons.injEq, DataW.lit.injEq, Lit.string.injEq, Lit.int.injEq, true_and, and_true] at e
      obtain ⟨e1, e2, e3⟩ := e
      have hxs : xs = #[.string s, .int .i64 t, .int .i64 p] := by
        apply Array.ext'
        rw [hx]
      rw [hxs, opV, ← e1, e2, e3]
    · cases h
  · cases h
/-- block b: the operators of class c of the list L, by their names; at most N stores -/
def MapOf (P : Program) (K : TypeId) (w : World) (b N c : Nat) (L : List OpV) : Prop :=
  ∃ D : DataW Unit, w.ownsMap P K opR b N D ∧ ∀ nm : List UInt8, Maps.has D (.string nm) = (find L c nm).isSome ∧ ∀ x, find L c nm = some x → ∀ z, D.atKey (.string nm) z = opD x
section
variable {P : Program} {K E T : TypeId} {w : World} {b N c : Nat} {L : List OpV}
theorem MapOf.lt (h : MapOf P K w b N c L) : b < w.heap.size := let ⟨_, h1, _⟩ := h; h1.lt
theorem MapOf.kept {w' : World} {row : Option Nat} (h : MapOf P K w b N c L) (hg : w.grownBy w' row) (hne : some b ≠ row) : MapOf P K w' b N c L :=
  let ⟨D, h1, h2⟩ := h; ⟨D, h1.kept hg hne, h2⟩
theorem MapOf.below {w' : World} {C : Nat} (h : MapOf P K w b N c L) (hb : Below C w w') (hC : b < C) : MapOf P K w' b N c L := by
  obtain ⟨D, ⟨es, clock, h1, h3⟩, h2⟩ := h
  exact ⟨D, ⟨es, clock, (hb.block b hC).trans h1, h3⟩, h2⟩
theorem MapOf.alloc (h : MapOf P K w b N c L) (o : Obj) : MapOf P K (w.alloc o) b N c L := let ⟨D, h1, h2⟩ := h; ⟨D, h1.alloc o, h2⟩
theorem MapOf.setCell {a : Addr} (h : MapOf P K w b N c L) (ha : b ≠ a.block) (u : Value) : MapOf P K (w.setCell a u) b N c L := let ⟨D, h1, h2⟩ := h; ⟨D, h1.setCell ha u, h2⟩
theorem MapOf.made (w : World) (c : Nat) : MapOf P K (w.alloc (.map #[] 0)) w.heap.size 0 c [] :=
  ⟨_, World.ownsMap_made w P K opR, fun nm => ⟨rfl, fun x h => by cases h⟩⟩
theorem MapOf.same {L' : List OpV} (h : MapOf P K w b N c L) (he : ∀ nm, find L' c nm = find L c nm) : MapOf P K w b N c L' :=
  let ⟨D, h1, h2⟩ := h; ⟨D, h1, fun nm => by rw [he nm]; exact h2 nm⟩
theorem MapOf.monoN {M : Nat} (h : MapOf P K w b N c L) (hN : N ≤ M) : MapOf P K w b M c L := let ⟨D, h1, h2⟩ := h; ⟨D, h1.mono hN, h2⟩
def zeroOp : OpV := ⟨[], 0, 0⟩
/-- v, ok := m[name] -/
theorem MapOf.look (h : MapOf P K w b N c L) (law : Keyed P K) (hk : P.underlying K = some .string) (ht : P.underlying T = some (.map K E)) (hz : (zeroValue E).run P w = .ok (opV zeroOp) w) {s : ByteArray} (hs : s.size ≤ maxLen) :
    (Instr.lookup T (.map (some b)) (.string s) true).run P w = .ok (.tuple #[opV ((find L c s.data.toList).getD zeroOp), .bool (find L c s.data.toList).isSome]) w := by
  obtain ⟨D, h1, h2⟩ := h
  obtain ⟨e1, e2⟩ := h2 s.data.toList
  obtain ⟨v, ps, hrun, hv⟩ := h1.look_ok law ht hz (opR_mk zeroOp) (keyOf_string_mk hk hs)
  rw [hrun, e1]
  congr 4
  cases hf : find L c s.data.toList with
  | none =>
    rw [hf] at e1
    rw [atKey_of_not_has (by simpa using e1)] at hv
    exact opR_inv hv
  | some x =>
    rw [e2 x hf] at hv
    exact opR_inv hv
theorem MapOf.store (h : MapOf P K w b N c L) (law : Keyed P K) (hk : P.underlying K = some .string) (ht : P.underlying T = some (.map K E)) (hN : N < maxLen) {s : ByteArray} (hs : s.size ≤ maxLen) {x : OpV} (hx : x.n = s.data.toList) (hc : cls x.t = c) :
    ∃ w', (Instr.mapUpdate T (.map (some b)) (.string s) (opV x)).run P w = .ok () w' ∧ MapOf P K w' b (N + 1) c (put L x) ∧ w.grownBy w' (some b) := by
  obtain ⟨D, h1, h2⟩ := h
  obtain ⟨w', hrun, hown, hg⟩ := h1.update law ht hN (keyOf_string_mk hk hs) (opR_mk x)
  refine ⟨w', hrun, ⟨_, hown, fun nm => ?_⟩, hg⟩
  have hm := h1.isMap
  have hkey : WideAt.IsKeyLit (.string s.data.toList) := law.key (keyOf_string_mk hk hs)
  by_cases hn : nm = s.data.toList
  · subst hn
    have e : find (put L x) c s.data.toList = some x := by rw [← hx, ← hc]; exact find_put_same L x
    rw [e, has_put_same hm hkey]
    exact ⟨rfl, fun y hy z => by rw [atKey_put_same hm hkey, Option.some.inj hy]⟩
  · have e : find (put L x) c nm = find L c nm := find_put_other (fun e => hn (e.2.trans hx))
    have hne : (Lit.string nm) ≠ .string s.data.toList := fun e => hn (by injection e)
    rw [e, has_put_other hne]
    exact ⟨(h2 nm).1, fun y hy z => by rw [atKey_put_other hne]; exact (h2 nm).2 y hy z⟩
theorem MapOf.drop (h : MapOf P K w b N c L) (law : Keyed P K) (hk : P.underlying K = some .string) (ht : P.underlying T = some (.map K E)) {s : ByteArray} (hs : s.size ≤ maxLen) (ty : TypeId) :
    ∃ w', (Builtin.delete_ #[T, K] ty #[.map (some b), .string s]).run P w = .ok (.tuple #[]) w' ∧ MapOf P K w' b N c (del L c s.data.toList) ∧ w.grownBy w' (some b) := by
  obtain ⟨D, h1, h2⟩ := h
  obtain ⟨w', hrun, hown, hg⟩ := h1.drop law ht (keyOf_string_mk hk hs) ty
  refine ⟨w', hrun, ⟨_, hown, fun nm => ?_⟩, hg.grown⟩
  by_cases hn : nm = s.data.toList
  · subst hn
    rw [find_del_same, has_del_same]
    exact ⟨rfl, fun y hy => by cases hy⟩
  · have e : find (del L c s.data.toList) c nm = find L c nm := find_del_other (fun e => hn e.2)
    have hne : (Lit.string nm) ≠ .string s.data.toList := fun e => hn (by injection e)
    rw [e, has_del_other hne]
    exact ⟨(h2 nm).1, fun y hy z => by rw [atKey_del_other hne]; exact (h2 nm).2 y hy z⟩
end
end Ho
