import Derived.Test.YtfdcponamkfcaaaDoorOv
import Derived.Test.YtfdcponamkfcaaaDoorNm
import Derived.Deep.Strs
import Derived.SizedLaws
import Derived.Deep.DeepHandedRow
import Derived.Deep.DeepWitnessRowRef
import Derived.Lib.LaidTab
import Derived.Lay
import Derived.Test.YtfdcponamkfcaaaDoorTie
namespace Go.Proofs.YtfdcponamkfcaaaDoor
open Go.ChangeShapes Go.WideShapes Go.ChangeAt Go.RowKit Go.Joins Go.Deep Ho Hb
set_option linter.unusedVariables false
set_option linter.unusedSimpArgs false
theorem spot_none {w : World} {a : Addr} {v : Value} (h : w.cell? (a.add 0) = some v) : ∃ b o, a = ⟨b, o, none⟩ ∧ b < w.heap.size := by
  obtain ⟨b, off, spot⟩ := a
  have hspot : spot = none := by simpa [Addr.add] using World.cell?_spot h
  subst hspot
  refine ⟨b, off, rfl, ?_⟩
  have := World.block_lt_of_cell? _ _ h
  simpa [Addr.add] using this
theorem add_add (a : Addr) (m k : Nat) : (a.add m).add k = a.add (m + k) := by
  unfold Addr.add
  by_cases h1 : m = 0
  · subst h1; simp
  · by_cases h2 : k = 0
    · subst h2; simp [h1]
    · simp [h1, h2, Nat.add_assoc]
theorem list3 {α : Type} {l : List α} (h : l.length = 3) : ∃ a b c, l = [a, b, c] := by
  match l, h with
  | [a, b, c], _ => exact ⟨a, b, c, rfl⟩
set_option maxRecDepth 1000000 in
/-- one operator among an argument's cells -/
theorem open_elem {H : Type} {enc : TypeId × Value → H} {W : World} {n : Nat} {sp : Nat → Bool} {a : Addr} {i : Nat} {cs : List Value} {x : DataW H × List MemPlace}
    (h1 : W.cells? 0 (a.add (i * Tryd.prog.cellsOf 23)) (Tryd.prog.cellsOf 23) = some cs) (h2 : DataW.trod enc Tryd.prog W 0 sp true n 23 cs = some x) :
    ∃ y : OpV, y.n.length ≤ maxLen ∧ ∀ k, k < 3 → W.cell? (a.add (i * 3 + k)) = (encO y)[k]? := by
  rw [cellsOp] at h1
  obtain ⟨_, hl, hc⟩ := World.cells?_some h1
  obtain ⟨y0, y1, y2, m, _, _, g0, g1, g2⟩ := trod_struct3 Tryd.underlying23 h2
  obtain ⟨c0, c1, c2, rfl⟩ := list3 hl
  have e9 : Tryd.prog.cellsOf 9 = 1 := by kernel_rfl
  have e3 : Tryd.prog.cellsOf 3 = 1 := by kernel_rfl
  obtain ⟨s, k0, _, hs⟩ := DataW.trod_string Tryd.underlying9 g0
  obtain ⟨t, k1, _⟩ := DataW.trod_int Tryd.underlying3 g1
  obtain ⟨q, k2, _⟩ := DataW.trod_int Tryd.underlying3 g2
  simp [e9] at k0
  simp [e3] at k1 k2
  subst k0 k1 k2
  refine ⟨⟨s.data.toList, t, q⟩, by simpa using hs, fun k hk => ?_⟩
  have h3 := hc k hk
  have ea : (a.add (i * 3)).add k = a.add (i * 3 + k) := add_add a _ _
  rw [← ea, h3]
  rfl
set_option maxRecDepth 1000000 in
/-- an argument of the type []Op, opened -/
theorem open_Ops {H : Type} {enc : TypeId × Value → H} {W : World} {base : Nat} {v : Value} {d : DataW H} {p : List MemPlace} (hval : Value.okWide Tryd.prog W .any base 30 v)
    (h : DataW.Trod enc Tryd.prog W 0 (fun _ => true) true 30 v d p) : ∃ (A : Option Addr) (n c : Nat) (ls : List OpV), v = .slice A n c ∧ ArgO W W.heap.size A n c ls ∧ (n = 0 ∨ ∃ es sp, d = .slice es sp ∧ es.length = n) := by
  obtain ⟨A, n, c, rfl⟩ := okWide_slice Tryd.underlying30 hval
  obtain ⟨fuel, hf⟩ := h
  rcases open_slice Tryd.underlying30 hf with ⟨e1, _⟩ | ⟨a, n', c', m, k, D, Pl, e1, _, hnc, hcm, hm, hx, hcell⟩
  · simp [Value.cells] at e1
    obtain ⟨rfl, rfl, rfl⟩ := e1
    exact ⟨none, 0, 0, [], rfl, ⟨rfl, Nat.le_refl _, by simp [maxLen], Rd.nil _ _ _, fun x hx => by cases hx⟩, .inl rfl⟩
  · simp [Value.cells] at e1
    obtain ⟨rfl, rfl, rfl⟩ := e1
    have hnm : n ≤ m := by rw [hm]; split <;> omega
    obtain ⟨V, hV⟩ := choose_lt (α := OpV) (n := n) (p := fun i y => y.n.length ≤ maxLen ∧ ∀ k, k < 3 → W.cell? (a.add (i * 3 + k)) = (encO y)[k]?) (fun i hi => by
      obtain ⟨cs, g1, g2⟩ := hcell i (by omega)
      exact open_elem g1 g2)
    refine ⟨some a, n, c, (List.range n).map V, rfl, ⟨by simp, hnc, hcm, ?_, ?_⟩, .inr ⟨_, _, (Prod.mk.inj hx).1, by simp⟩⟩
    · intro hne
      have hn : 0 < n := by
        rcases Nat.eq_zero_or_pos n with h | h
        · exfalso; apply hne; subst h; rfl
        · exact h
      have g0 := (hV 0 hn).2 0 (by omega)
      obtain ⟨b, o, rfl, hb⟩ := spot_none (v := .string ⟨(V 0).n.toArray⟩) (by simpa [encO] using g0)
      refine ⟨b, o, rfl, hb, fun i u hu => ?_⟩
      have hil : i < n * 3 := by
        have := (List.getElem?_eq_some_iff.1 hu).1
        rw [flO_length] at this
        simpa using this
      have hq : i / 3 < ((List.range n).map V).length := by simp; omega
      have hg := flO_get ((List.range n).map V) (i := i / 3) (k := i % 3) hq (Nat.mod_lt _ (by omega))
      have ei : i / 3 * 3 + i % 3 = i := by omega
      have h3 := (hV (i / 3) (by omega)).2 (i % 3) (Nat.mod_lt _ (by omega))
      rw [ei] at hg h3
      rw [addr_add] at h3
      rw [h3, ← hu, hg]
      congr 2
      rw [getElem!_pos _ (i / 3) (by simpa using hq)]
      simp
    · intro x hx
      obtain ⟨i, hi, rfl⟩ := List.mem_map.1 hx
      exact (hV i (by simpa using hi)).1
set_option maxRecDepth 1000000 in
/-- an argument of the type Op, opened; its name is no longer than a string may be -/
theorem open_Op_sized {H : Type} {enc : TypeId × Value → H} {W : World} {base : Nat} {v : Value} {d : DataW H} {p : List MemPlace} (hval : Value.okWide Tryd.prog W .any base 23 v)
    (h : DataW.Trod enc Tryd.prog W 0 (fun _ => true) true 23 v d p) : ∃ (s : ByteArray) (t q : Int), v = .agg #[.string s, .int .i64 t, .int .i64 q] ∧ s.size ≤ maxLen := by
  obtain ⟨v0, v1, v2, y0, y1, y2, m, rfl, _, _, h0, h1, h2⟩ := open_agg3 (P := Tryd.prog) (w := W) (r := .any) (b0 := base) (t := 23) (v := v) (d := d) (p := p) Tryd.underlying23 (by kernel_rfl) cellsOp hval h
  obtain ⟨s, e0, _, hs⟩ := DataW.trod_string Tryd.underlying9 h0
  obtain ⟨t, e1, _⟩ := DataW.trod_int Tryd.underlying3 h1
  obtain ⟨q, e2, _⟩ := DataW.trod_int Tryd.underlying3 h2
  simp at e0 e1 e2
  subst e0 e1 e2
  exact ⟨s, t, q, rfl, hs⟩
theorem bytesOp : Tryd.prog.bytesOf 23 = 32 := by kernel_rfl
theorem ws_global : Tryd.prog.globalNamed "unicode.White_Space" = some 1 := by kernel_rfl
set_option maxRecDepth 1000000 in
/-- the listed variables' blocks are there -/
theorem laid_two {W : World} (h : laidMetH Tryd.prog Rows.opsTypesRow.laid W) : 2 ≤ W.heap.size := by
  have hr := Lib.laidMet.reads h (n := "unicode.White_Space") (d := Rows.laid_unicode_White_Space) (List.Mem.head _)
  obtain ⟨g', t', cs, fuel, p, hg', ht', hvar, hd⟩ := hr
  unfold World.var? at hvar
  rw [ws_global] at hvar
  refine Decidable.byContradiction fun hn => ?_
  have : W.heap[1]? = none := Array.getElem?_eq_none (by omega)
  simp only [Option.bind_some, this] at hvar
  cases hvar
theorem opsOwn : ownKnob Tryd.prog.godebug = none := by kernel_rfl
noncomputable def opsWorld (os : Os) : World := World.laidAll Tryd.prog os Rows.opsTypesRow.laid
theorem opsWorld_met (os : Os) (args : Array Value) : laidMetH Tryd.prog Rows.opsTypesRow.laid ((opsWorld os).forCall (fun _ _ => 0) ⟨#[], args, []⟩).memory := by
  rw [MakeChecks.laidMetH_plain _ _ _ (by kernel_rfl)]
  exact laidMet_laidAll _ (by kernel_rfl) (by kernel_rfl)
/-- how many operators an argument may have -/
theorem ops_reach {H : Type} {d : DataW H} {l : List (DataW H)} {ts : List TypeId} {j n : Nat} (hw : (DataW.weightsEach Tryd.prog ts l).all (· ≤ reachBytes) = true) (ht : ts[j]? = some 30) (hd : l[j]? = some d) (h : n = 0 ∨ ∃ es sp, d = .slice es sp ∧ es.length = n) : n ≤ 4398046511000 := by
  rcases h with rfl | ⟨es, sp, rfl, rfl⟩
  · omega
  · have h2 := sized_slice hw ht hd Tryd.underlying30
    rw [bytesOp] at h2
    unfold reachBytes at h2
    omega
end Go.Proofs.YtfdcponamkfcaaaDoor
