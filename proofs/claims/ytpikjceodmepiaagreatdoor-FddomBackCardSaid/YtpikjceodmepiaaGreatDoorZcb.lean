import Derived.Test.YtpikjceodmepiaaGreatDoorZbb
import Derived.Deep.Slices
import Derived.SizedLaws
import Derived.Deep.DeepHandedRow
set_option linter.unusedVariables false
set_option linter.unusedSimpArgs false
namespace Go.Proofs.YtpikjceodmepiaaGreatDoor
open Go.ChangeShapes Go.WideShapes Go.ChangeAt Go.RowKit Go.Joins Go.Deep Hb Hf
set_option linter.unusedVariables false
set_option linter.unusedSimpArgs false
/-! ### an argument of the type []api.Range, opened -/
theorem i64_wf {x : Int} (h : (Lit.int .i64 x).wf = true) : -9223372036854775808 ≤ x ∧ x ≤ 9223372036854775807 := by
  simp [Lit.wf, IntKind.has, IntKind.min, IntKind.max, IntKind.bits, IntKind.signed] at h
  omega
theorem list2 {α : Type} {l : List α} (h : l.length = 2) : ∃ a b, l = [a, b] := by
  match l, h with
  | [a, b], _ => exact ⟨a, b, rfl⟩
theorem list3 {α : Type} {l : List α} (h : l.length = 3) : ∃ a b c, l = [a, b, c] := by
  match l, h with
  | [a, b, c], _ => exact ⟨a, b, c, rfl⟩
theorem list6 {α : Type} {l : List α} (h : l.length = 6) : ∃ a b c d e f, l = [a, b, c, d, e, f] := by
  match l, h with
  | [a, b, c, d, e, f], _ => exact ⟨a, b, c, d, e, f, rfl⟩
theorem spot_none {w : World} {a : Addr} {v : Value} (h : w.cell? (a.add 0) = some v) : ∃ b o, a = ⟨b, o, none⟩ ∧ b < w.heap.size := by
  obtain ⟨b, off, spot⟩ := a
  have hspot : spot = none := by simpa [Addr.add] using World.cell?_spot h
  subst hspot
  refine ⟨b, off, rfl, ?_⟩
  have := World.block_lt_of_cell? _ _ h
  simpa [Addr.add] using this
theorem add_add (a : Addr) (m k : Nat) : (a.add m).add k = a.add (m + k) := by
  unfold Addr.add
  by_cases h1 : m = 0
  · subst h1; simp
  · by_cases h2 : k = 0
    · subst h2; simp [h1]
    · simp [h1, h2, Nat.add_assoc]
theorem cellsBd : Tryz.prog.cellsOf 67 = 3 := by kernel_rfl
theorem cellsRg : Tryz.prog.cellsOf 69 = 6 := by kernel_rfl
theorem trod_two {H : Type} {enc : TypeId × Value → H} {P : Program} {w : World} {base : Nat} {spare : Nat → Bool} {held : Bool} {t : TypeId} {f0 f1 : Field} {fuel : Nat} {cs : List Value} {x : DataW H × List MemPlace} (ht : P.underlying t = some (.struct #[f0, f1])) (h : DataW.trod enc P w base spare held fuel t cs = some x) :
    ∃ y0 y1 n, fuel = n + 1 ∧ cs.length = P.cellsOf t ∧ DataW.trod enc P w base spare held n f0.type ((cs.drop f0.offset).take (P.cellsOf f0.type)) = some y0 ∧
      DataW.trod enc P w base spare held n f1.type ((cs.drop f1.offset).take (P.cellsOf f1.type)) = some y1 := by
  obtain ⟨xs, n, hn, rfl, hl, hlen, hf⟩ := DataW.trod_struct ht h
  match xs, hlen with
  | [y0, y1], _ => exact ⟨y0, y1, n, hn, hl, by simpa using hf 0 f0 rfl, by simpa using hf 1 f1 rfl⟩
section
variable {H : Type} {enc : TypeId × Value → H} {W : World}
set_option maxRecDepth 100000 in
theorem trod_Int {fuel : Nat} {cs : List Value} {x : DataW H × List MemPlace} (h : DataW.trod enc Tryz.prog W 0 (fun _ => true) true fuel 56 cs = some x) :
    ∃ (neg : Bool) (A : Option Addr) (n c : Nat) (l : List Nat), cs = [.bool neg, .slice A n c] ∧ SlU W W.heap.size A n c l ∧ (A = none → c = 0) := by
  obtain ⟨y0, y1, m, rfl, hl, h0, h1⟩ := trod_two Tryz.underlying56 h
  rw [cellsInt] at hl
  obtain ⟨v0, v1, rfl⟩ := list2 hl
  have eb : Tryz.prog.cellsOf 4 = 1 := by kernel_rfl
  have es : Tryz.prog.cellsOf 54 = 1 := by kernel_rfl
  simp [eb] at h0
  simp [es] at h1
  obtain ⟨neg, e0, _⟩ := DataW.trod_bool Tryz.underlying4 h0
  simp at e0
  subst e0
  rcases open_ints Tryz.underlying54 Tryz.underlying101 cellsU h1 with ⟨e1, _⟩ | ⟨a, n, c, zs, e1, _, hnc, hcm, hz, _, hcell, hwf⟩
  · simp at e1
    subst e1
    exact ⟨neg, none, 0, 0, [], rfl, SlU.nil _ _ _ _ (by simp [maxLen]), fun _ => rfl⟩
  · simp at e1
    subst e1
    simp only [if_true] at hz
    have hw : ∀ i, i < c → 0 ≤ zs.getD i 0 ∧ zs.getD i 0 < 4294967296 := by
      intro i hi
      have hm : zs.getD i 0 ∈ zs := by
        rw [List.getD_eq_getElem?_getD, List.getElem?_eq_getElem (by omega)]
        exact List.getElem_mem _
      have := hwf _ hm
      clear hm
      generalize zs.getD i 0 = zz at *
      simp [Lit.wf, IntKind.min, IntKind.max, IntKind.signed, IntKind.bits] at this
      omega
    refine ⟨neg, some a, n, c, (zs.take n).map Int.toNat, rfl, ⟨by simp; omega, hnc, hcm, ?_, ?_⟩, fun h => by cases h⟩
    · intro x hx
      obtain ⟨z, hz1, rfl⟩ := List.mem_map.1 hx
      obtain ⟨i, hi, rfl⟩ := List.getElem_of_mem hz1
      rw [List.length_take] at hi
      have h5 := hw i (by omega)
      have e : zs.getD i 0 = zs[i]'(by omega) := by rw [List.getD_eq_getElem?_getD, List.getElem?_eq_getElem (by omega)]; rfl
      rw [List.getElem_take, ← e]
      show (zs.getD i 0).toNat < 4294967296
      omega
    · intro hne
      have hn : 0 < n := by
        rcases Nat.eq_zero_or_pos n with h | h
        · exfalso; apply hne; subst h; simp [u32s]
        · exact h
      have g0 := hcell 0 (by omega)
      obtain ⟨b, off, spot⟩ := a
      have hspot : spot = none := by simpa [Addr.add] using World.cell?_spot g0
      subst hspot
      refine ⟨b, off, rfl, ?_, fun i u hu => ?_⟩
      · have := World.block_lt_of_cell? _ _ g0
        simpa [Addr.add] using this
      · have hi : i < n := by
          have := (List.getElem?_eq_some_iff.1 hu).1
          rw [u32s_length, List.length_map, List.length_take] at this
          omega
        have h2 := hcell i (by omega)
        rw [addr_add] at h2
        rw [h2, ← hu, u32s_get (by simp; omega)]
        congr 2
        have h3 := hw i (by omega)
        have e : zs.getD i 0 = zs[i]'(by omega) := by rw [List.getD_eq_getElem?_getD, List.getElem?_eq_getElem (by omega)]; rfl
        have e2 : ((zs.take n).map Int.toNat).getD i 0 = (zs[i]'(by omega)).toNat := by
          rw [List.getD_eq_getElem?_getD, List.getElem?_map, List.getElem?_take_of_lt hi, List.getElem?_eq_getElem (by omega)]; rfl
        rw [e2, e]
        rw [e] at h3
        omega
set_option maxRecDepth 100000 in
theorem trod_Bd {fuel : Nat} {cs : List Value} {x : DataW H × List MemPlace} (h : DataW.trod enc Tryz.prog W 0 (fun _ => true) true fuel 67 cs = some x) :
    ∃ b : Bd, cs = b.vals ∧ b.At W (fun b => b < W.heap.size) ∧ (b.A = none → b.c = 0) := by
  obtain ⟨y0, y1, m, rfl, hl, h0, h1⟩ := trod_two Tryz.underlying67 h
  rw [cellsBd] at hl
  obtain ⟨v0, v1, v2, rfl⟩ := list3 hl
  have e3 : Tryz.prog.cellsOf 3 = 1 := by kernel_rfl
  simp [e3] at h0
  simp [cellsInt] at h1
  obtain ⟨u0, k0, _, w0⟩ := DataW.trod_int Tryz.underlying3 h0
  simp at k0
  subst k0
  obtain ⟨neg, A, n, c, l, e, hs, hA⟩ := trod_Int h1
  simp at e
  obtain ⟨rfl, rfl⟩ := e
  exact ⟨⟨u0, neg, A, n, c, l⟩, rfl, ⟨LimP.of_sl hs, (i64_wf w0).1, (i64_wf w0).2⟩, hA⟩
set_option maxRecDepth 100000 in
theorem trod_Rg {fuel : Nat} {cs : List Value} {x : DataW H × List MemPlace} (h : DataW.trod enc Tryz.prog W 0 (fun _ => true) true fuel 69 cs = some x) :
    ∃ p : Rg, cs = cells6 p ∧ Rg.At W (fun b => b < W.heap.size) p ∧ (p.1.A = none → p.1.c = 0) ∧ (p.2.A = none → p.2.c = 0) := by
  obtain ⟨y0, y1, m, rfl, hl, h0, h1⟩ := trod_two Tryz.underlying69 h
  rw [cellsRg] at hl
  obtain ⟨v0, v1, v2, v3, v4, v5, rfl⟩ := list6 hl
  simp [cellsBd] at h0 h1
  obtain ⟨a, ea, ha, za⟩ := trod_Bd h0
  obtain ⟨b, eb, hb, zb⟩ := trod_Bd h1
  refine ⟨(a, b), ?_, ⟨ha, hb⟩, za, zb⟩
  show [v0, v1, v2, v3, v4, v5] = a.vals ++ b.vals
  rw [← ea, ← eb]
  rfl
set_option maxRecDepth 100000 in
theorem open_Ranges {base : Nat} {v : Value} {d : DataW H} {p : List MemPlace} (hval : Value.okWide Tryz.prog W .any base 22 v)
    (h : DataW.Trod enc Tryz.prog W 0 (fun _ => true) true 22 v d p) : ∃ (A : Option Addr) (n c : Nat) (ps : List Rg), v = .slice A n c ∧ SetP W (fun b => b < W.heap.size) A n c ps ∧ ZnR ps := by
  obtain ⟨A, n, c, rfl⟩ := okWide_slice Tryz.underlying22 hval
  obtain ⟨fuel, hf⟩ := h
  have hc : (Value.slice A n c).cells.toList = [.slice A n c] := by simp [Value.cells]
  rw [hc] at hf
  rcases DataW.trod_slice Tryz.underlying22 hf with ⟨e1, _⟩ | ⟨a, len, cap, elems, rest, m, rfl, e1, hx5, _, hlc, hcm, hlen2, hel, _⟩
  · simp at e1
    obtain ⟨rfl, rfl, rfl⟩ := e1
    exact ⟨none, 0, 0, [], rfl, ⟨⟨rfl, Nat.le_refl _, by simp [maxLen], fun h => absurd rfl h⟩, fun p hp => by cases hp⟩, fun p hp => by cases hp⟩
  · simp at e1
    obtain ⟨rfl, rfl, rfl⟩ := e1
    haveI : Inhabited Rg := ⟨(ib 0, ib 0)⟩
    obtain ⟨V, hV⟩ := choose_lt (α := Rg) (n := n) (p := fun i y => (∀ k, k < 6 → W.cell? (a.add (i * 6 + k)) = (cells6 y)[k]?) ∧ Rg.At W (fun b => b < W.heap.size) y ∧ (y.1.A = none → y.1.c = 0) ∧ (y.2.A = none → y.2.c = 0)) (fun i hi => by
      have h1 := hel i hi
      rw [List.getElem?_eq_getElem (by omega), Option.bind_eq_some_iff] at h1
      obtain ⟨cs', h2, h3⟩ := h1
      obtain ⟨t, rfl, ht, hz⟩ := trod_Rg h3
      refine ⟨t, fun k hk => ?_, ht, hz⟩
      rw [cellsRg] at h2
      have h4 := (World.cells?_some h2).2.2 k hk
      rw [← add_add, h4])
    refine ⟨some a, n, c, (List.range n).map V, rfl, ⟨⟨by simp, hlc, hcm, fun hne => ?_⟩, fun y hy => ?_⟩, fun y hy => ?_⟩
    · have hn0 : 0 < n := Nat.pos_of_ne_zero (fun e => hne (by subst e; rfl))
      obtain ⟨hc0, _⟩ := hV 0 hn0
      obtain ⟨b, o, rfl, hb⟩ := spot_none (hc0 0 (by omega))
      refine ⟨b, o, rfl, hb, fun i x hx => ?_⟩
      have hi6 : i < n * 6 := by
        have := (List.getElem?_eq_some_iff.1 hx).1
        rw [fl6_length] at this
        simpa using this
      have hd := Nat.div_add_mod i 6
      have hm := Nat.mod_lt i (show 0 < 6 by omega)
      have hq : i / 6 < n := by omega
      have e : i = i / 6 * 6 + i % 6 := by omega
      rw [e, fl6_get (p := V (i / 6)) (by simp [hq]) hm] at hx
      have h5 := (hV (i / 6) hq).1 (i % 6) hm
      rw [addr_add] at h5
      rw [show o + i = o + (i / 6 * 6 + i % 6) by omega, h5, hx]
    · obtain ⟨i, hi, rfl⟩ := List.mem_map.1 hy
      exact (hV i (by simpa using hi)).2.1
    · obtain ⟨i, hi, rfl⟩ := List.mem_map.1 hy
      exact (hV i (by simpa using hi)).2.2
end
end Go.Proofs.YtpikjceodmepiaaGreatDoor

