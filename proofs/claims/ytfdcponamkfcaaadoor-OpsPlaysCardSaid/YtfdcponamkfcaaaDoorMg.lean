import Derived.Test.YtfdcponamkfcaaaDoorNo
namespace Go.Proofs.YtfdcponamkfcaaaDoor
open Go.ChangeShapes Go.WideShapes Go.ChangeAt Go.RowKit Go.Joins Go.Deep Ho Hb
set_option linter.unusedVariables false
/-! ### OpsPlays: the argument -/
structure CallV where
  kind : Int
  on : Int
  p : Int
  k : Int
  n : Int
  name : List UInt8
instance : Inhabited CallV := ⟨⟨0, 0, 0, 0, 0, []⟩⟩
def i64In (x : Int) : Prop := -9223372036854775808 ≤ x ∧ x ≤ 9223372036854775807
def encC (x : CallV) : List Value := [.int .i64 x.kind, .int .i64 x.on, .int .i64 x.p, .int .i64 x.k, .int .i64 x.n, .string ⟨x.name.toArray⟩]
def CallV.ok (x : CallV) : Prop := x.name.length ≤ maxLen ∧ i64In x.on ∧ i64In x.n
theorem i64_of_wf {x : Int} (h : (Lit.int .i64 x).wf = true) : i64In x := by
  simp [Lit.wf, IntKind.has, IntKind.min, IntKind.max, IntKind.bits, IntKind.signed] at h
  unfold i64In
  omega
/-- a slice of calls that came in -/
structure ArgC (w : World) (B : Nat) (A : Option Addr) (n c : Nat) (ls : List CallV) : Prop where
  len : ls.length = n
  cap : n ≤ c
  max : c ≤ maxLen
  rd : 0 < n → ∃ b o, A = some ⟨b, o, none⟩ ∧ b < B ∧ ∀ i x, ls[i]? = some x → ∀ j, j < 6 → w.cell? ⟨b, o + (i * 6 + j), none⟩ = (encC x)[j]?
  nm : ∀ x ∈ ls, x.ok
theorem ArgC.below {w w' : World} {B n c : Nat} {A : Option Addr} {ls : List CallV} (h : ArgC w B A n c ls) (hb : Below B w w') : ArgC w' B A n c ls :=
  ⟨h.len, h.cap, h.max, fun hn => by
    obtain ⟨b, o, e, hB, hc⟩ := h.rd hn
    exact ⟨b, o, e, hB, fun i x hx j hj => (hb.cell (p := ⟨b, o + (i * 6 + j), none⟩) hB).trans (hc i x hx j hj)⟩, h.nm⟩
theorem cellsCall : Tryd.prog.cellsOf 52 = 6 := by kernel_rfl
theorem bytesCall : Tryd.prog.bytesOf 52 = 56 := by kernel_rfl
theorem trod_struct6 {H : Type} {enc : TypeId × Value → H} {P : Program} {w : World} {base : Nat} {spare : Nat → Bool} {held : Bool} {t : TypeId} {f0 f1 f2 f3 f4 f5 : Field} {fuel : Nat} {cs : List Value} {x : DataW H × List MemPlace} (ht : P.underlying t = some (.struct #[f0, f1, f2, f3, f4, f5])) (h : DataW.trod enc P w base spare held fuel t cs = some x) :
    ∃ y0 y1 y2 y3 y4 y5 n, cs.length = P.cellsOf t ∧ DataW.trod enc P w base spare held n f0.type ((cs.drop f0.offset).take (P.cellsOf f0.type)) = some y0 ∧
      DataW.trod enc P w base spare held n f1.type ((cs.drop f1.offset).take (P.cellsOf f1.type)) = some y1 ∧ DataW.trod enc P w base spare held n f2.type ((cs.drop f2.offset).take (P.cellsOf f2.type)) = some y2 ∧
      DataW.trod enc P w base spare held n f3.type ((cs.drop f3.offset).take (P.cellsOf f3.type)) = some y3 ∧ DataW.trod enc P w base spare held n f4.type ((cs.drop f4.offset).take (P.cellsOf f4.type)) = some y4 ∧
      DataW.trod enc P w base spare held n f5.type ((cs.drop f5.offset).take (P.cellsOf f5.type)) = some y5 := by
  obtain ⟨xs, n, _, rfl, hl, hlen, hf⟩ := DataW.trod_struct ht h
  match xs, hlen with
  | [y0, y1, y2, y3, y4, y5], _ => exact ⟨y0, y1, y2, y3, y4, y5, n, hl, by simpa using hf 0 f0 rfl, by simpa using hf 1 f1 rfl, by simpa using hf 2 f2 rfl, by simpa using hf 3 f3 rfl, by simpa using hf 4 f4 rfl, by simpa using hf 5 f5 rfl⟩
theorem list6 {α : Type} {l : List α} (h : l.length = 6) : ∃ a b c d e f, l = [a, b, c, d, e, f] := by
  match l, h with
  | [a, b, c, d, e, f], _ => exact ⟨a, b, c, d, e, f, rfl⟩
set_option maxRecDepth 1000000 in
/-- one call among an argument's cells -/
theorem open_elemC {H : Type} {enc : TypeId × Value → H} {W : World} {n : Nat} {sp : Nat → Bool} {a : Addr} {i : Nat} {cs : List Value} {x : DataW H × List MemPlace}
    (h1 : W.cells? 0 (a.add (i * Tryd.prog.cellsOf 52)) (Tryd.prog.cellsOf 52) = some cs) (h2 : DataW.trod enc Tryd.prog W 0 sp true n 52 cs = some x) :
    ∃ y : CallV, y.ok ∧ ∀ k, k < 6 → W.cell? (a.add (i * 6 + k)) = (encC y)[k]? := by
  rw [cellsCall] at h1
  obtain ⟨_, hl, hc⟩ := World.cells?_some h1
  obtain ⟨y0, y1, y2, y3, y4, y5, m, _, g0, g1, g2, g3, g4, g5⟩ := trod_struct6 Tryd.underlying52 h2
  obtain ⟨c0, c1, c2, c3, c4, c5, rfl⟩ := list6 hl
  have e9 : Tryd.prog.cellsOf 9 = 1 := by kernel_rfl
  have e3 : Tryd.prog.cellsOf 3 = 1 := by kernel_rfl
  obtain ⟨u0, k0, _, w0⟩ := DataW.trod_int Tryd.underlying3 g0
  obtain ⟨u1, k1, _, w1⟩ := DataW.trod_int Tryd.underlying3 g1
  obtain ⟨u2, k2, _, w2⟩ := DataW.trod_int Tryd.underlying3 g2
  obtain ⟨u3, k3, _, w3⟩ := DataW.trod_int Tryd.underlying3 g3
  obtain ⟨u4, k4, _, w4⟩ := DataW.trod_int Tryd.underlying3 g4
  obtain ⟨s, k5, _, hs⟩ := DataW.trod_string Tryd.underlying9 g5
  simp [e9] at k5
  simp [e3] at k0 k1 k2 k3 k4
  subst k0 k1 k2 k3 k4 k5
  refine ⟨⟨u0, u1, u2, u3, u4, s.data.toList⟩, ⟨by simpa using hs, i64_of_wf w1, i64_of_wf w4⟩, fun k hk => ?_⟩
  have h3 := hc k hk
  have ea : (a.add (i * 6)).add k = a.add (i * 6 + k) := add_add a _ _
  rw [← ea, h3]
  rfl
set_option maxRecDepth 1000000 in
/-- an argument of the type []Call, opened -/
theorem open_Calls {H : Type} {enc : TypeId × Value → H} {W : World} {base : Nat} {v : Value} {d : DataW H} {p : List MemPlace} (hval : Value.okWide Tryd.prog W .any base 46 v)
    (h : DataW.Trod enc Tryd.prog W 0 (fun _ => true) true 46 v d p) : ∃ (A : Option Addr) (n c : Nat) (ls : List CallV), v = .slice A n c ∧ ArgC W W.heap.size A n c ls ∧ (n = 0 ∨ ∃ es sp, d = .slice es sp ∧ es.length = n) := by
  obtain ⟨A, n, c, rfl⟩ := okWide_slice Tryd.underlying46 hval
  obtain ⟨fuel, hf⟩ := h
  rcases open_slice Tryd.underlying46 hf with ⟨e1, _⟩ | ⟨a, n', c', m, k, D, Pl, e1, _, hnc, hcm, hm, hx, hcell⟩
  · simp [Value.cells] at e1
    obtain ⟨rfl, rfl, rfl⟩ := e1
    exact ⟨none, 0, 0, [], rfl, ⟨rfl, Nat.le_refl _, by simp [maxLen], fun h => absurd h (by omega), fun x hx => by cases hx⟩, .inl rfl⟩
  · simp [Value.cells] at e1
    obtain ⟨rfl, rfl, rfl⟩ := e1
    have hnm : n ≤ m := by rw [hm]; split <;> omega
    obtain ⟨V, hV⟩ := choose_lt (α := CallV) (n := n) (p := fun i y => y.ok ∧ ∀ k, k < 6 → W.cell? (a.add (i * 6 + k)) = (encC y)[k]?) (fun i hi => by
      obtain ⟨cs, g1, g2⟩ := hcell i (by omega)
      exact open_elemC g1 g2)
    refine ⟨some a, n, c, (List.range n).map V, rfl, ⟨by simp, hnc, hcm, ?_, ?_⟩, .inr ⟨_, _, (Prod.mk.inj hx).1, by simp⟩⟩
    · intro hn
      have g0 := (hV 0 hn).2 0 (by omega)
      obtain ⟨b, o, rfl, hb⟩ := spot_none (v := .int .i64 (V 0).kind) (by simpa [encC] using g0)
      refine ⟨b, o, rfl, hb, fun i x hx j hj => ?_⟩
      obtain ⟨hi, e⟩ := List.getElem?_eq_some_iff.1 hx
      have hin : i < n := by simpa using hi
      rw [List.getElem_map, List.getElem_range] at e
      have h3 := (hV i hin).2 j hj
      rw [addr_add] at h3
      rw [h3, e]
    · intro x hx
      obtain ⟨i, hi, rfl⟩ := List.mem_map.1 hx
      exact (hV i (by simpa using hi)).1
/-- how many calls an argument may have -/
theorem calls_reach {H : Type} {d : DataW H} {l : List (DataW H)} {ts : List TypeId} {j n : Nat} (hw : (DataW.weightsEach Tryd.prog ts l).all (· ≤ reachBytes) = true) (ht : ts[j]? = some 46) (hd : l[j]? = some d) (h : n = 0 ∨ ∃ es sp, d = .slice es sp ∧ es.length = n) : n ≤ 4398046511000 := by
  rcases h with rfl | ⟨es, sp, rfl, rfl⟩
  · omega
  · have h2 := sized_slice hw ht hd Tryd.underlying46
    rw [bytesCall] at h2
    unfold reachBytes at h2
    omega
end Go.Proofs.YtfdcponamkfcaaaDoor
