import Derived.RangeFuncNested
import Derived.RangeFuncBound
import Derived.RangeFuncCalls
import Derived.RangeFuncLeaves
import Derived.RangeFuncBox
import Derived.Shelf.Abstract
import Derived.Shelf.RegionOpen
import Derived.WalkKit
import Derived.OwnWalkIn
import Derived.TacticsInMore
import Derived.LoopNIn
import Derived.LoopIn
import Derived.Maps.AppendAt
import Derived.Sort.MapsRangeIn
import Derived.Sort.KeysCollected
import Derived.Test.YtfdcponamkfcaaaDoorOa
import Derived.Test.YtfdcponamkfcaaaDoorNa
namespace Go.Proofs.YtfdcponamkfcaaaDoor
open Go.RowKit Ho Go.Maps Go.Shelf Go.Sort
set_option linter.unusedVariables false
set_option linter.unusedSimpArgs false
attribute [local go_sem] Oper.semAt_some
/-! ### maps.Values at a class of the table -/
theorem opR_cases {v : Value} {z : DataW Unit × List MemPlace} (h : opR v = some z) : ∃ y : OpV, v = opV y ∧ z = (opD y, []) := by
  unfold opR at h
  split at h
  · rename_i xs
    split at h
    · rename_i s t p hx
      have hxs : xs = #[.string s, .int .i64 t, .int .i64 p] := Array.ext' hx
      refine ⟨⟨s.data.toList, t, p⟩, ?_, ?_⟩
      · rw [hxs, opV]
      · rw [opD]; exact (Option.some.inj h).symm
    · cases h
  · cases h
theorem opV_inj {x y : OpV} (h : opV x = opV y) : x = y := by
  obtain ⟨a, b, c⟩ := x
  obtain ⟨a', b', c'⟩ := y
  simp [opV] at h
  obtain ⟨h1, h2, h3⟩ := h
  have : a = a' := by simpa using h1
  subst this; subst h2; subst h3; rfl
theorem opD_inj {x y : OpV} (h : opD x = opD y) : x = y := by
  obtain ⟨a, b, c⟩ := x
  obtain ⟨a', b', c'⟩ := y
  simp [opD] at h
  obtain ⟨h1, h2, h3⟩ := h
  subst h1; subst h2; subst h3; rfl
/-- the operators of a class -/
def clL (L : List OpV) (c : Nat) : List OpV := L.filter (fun x => decide (cls x.t = c))
theorem cl_perm {L : List OpV} {c : Nat} (hu : Uq L) {ps : List OpV} (hnd : (ps.map (·.n)).Nodup) (hmem : ∀ x, x ∈ ps.map (·.n) ↔ (Ho.find L c x).isSome = true) (hat : ∀ y ∈ ps, Ho.find L c y.n = some y) : ps.Perm (clL L c) := by
  have h1 : ps.Nodup := by
    have := List.pairwise_map.1 hnd
    exact this.imp (fun h e => h (by rw [e]))
  have h2 : (clL L c).Nodup := by
    refine List.Pairwise.filter _ ?_
    exact List.Pairwise.imp (fun {x y} h e => h ⟨by rw [e], by rw [e]⟩) hu
  refine (List.perm_ext_iff_of_nodup h1 h2).2 fun y => ⟨fun hy => ?_, fun hy => ?_⟩
  · obtain ⟨a, _, b⟩ := find_some (hat y hy)
    exact List.mem_filter.2 ⟨a, decide_eq_true b⟩
  · obtain ⟨a, b⟩ := List.mem_filter.1 hy
    have hf := hu.find a
    rw [of_decide_eq_true b] at hf
    have hm := (hmem y.n).2 (by rw [hf]; rfl)
    obtain ⟨z, hz, hn⟩ := List.mem_map.1 hm
    have hz2 := hat z hz
    rw [hn, hf] at hz2
    cases hz2
    exact hz
set_option maxHeartbeats 1000000 in
theorem values_in (F : Fence) (n : Nat) (hf : F.fn 39) (hro : F.round = none) (mb : Option Nat) (w : World) :
    CallsIn F n Tryd.prog 39 #[.map mb] w fun e w' => e = .returned (.func (.func 50) #[] #[.pointer (some ⟨w.heap.size, 0, none⟩)]) ∧ w' = w.alloc (.cells #[.map mb] 62) := by
  refine callsIn_of_wp Tryd.func39 rfl hf ?_ hro
  simp only [Tryd.ntmps39, List.size_toArray, List.length_cons, List.length_nil, Nat.reduceAdd, Nat.reduceSub, Array.replicate_succ, Array.replicate_zero, List.push_toArray, List.append_toArray, List.nil_append, List.cons_append]
  gi_wp2
  go_ret
  exact ⟨rfl, rfl⟩
set_option maxRecDepth 100000 in
set_option maxHeartbeats 1000000 in
theorem values1_in (F : Fence) (n : Nat) (h8 : F.fn 50) (hro : F.round = none) (hn : 1 ≤ n) (l Bm b nn c : Nat) (L : List OpV) (D0 : DataW Unit) (hu : Uq L) (hD : ∀ nm : List UInt8, Maps.has D0 (.string nm) = (Ho.find L c nm).isSome ∧ ∀ x, Ho.find L c nm = some x → ∀ z, D0.atKey (.string nm) z = opD x) (J Jx : List OpV → World → Prop)
    (hY : ∀ pre x W, J pre W → pre.length < Maps.size D0 → YieldAt F (n - 1) Tryd.prog l #[opV x] W fun e W' =>
      (e = .returned (.bool true) ∧ J (pre ++ [x]) W' ∧ KeepsWalks W W') ∨ (e = .returned (.bool false) ∧ Jx (pre ++ [x]) W'))
    (W : World) (hJ : AbidesFrom W.heap.size J) (hm : W.cell? ⟨Bm, 0, none⟩ = some (.map (some b))) (hown : W.ownsMap Tryd.prog 9 opR b nn D0) (h0 : J [] W) :
    CallsIn F n Tryd.prog 50 #[.func (.yield l) #[] #[], .pointer (some ⟨Bm, 0, none⟩)] W fun e W' => (∃ v, e = .returned v) ∧
      ((∃ xs, xs.Perm (clL L c) ∧ J xs W') ∨ (∃ pre, True ∧ Jx pre W')) := by
  refine callsIn_of_wp Tryd.func50 rfl h8 ?_ hro
  simp only [Tryd.ntmps50, List.size_toArray, List.length_cons, List.length_nil, Nat.reduceAdd, Nat.reduceSub, Array.replicate_succ, Array.replicate_zero, List.push_toArray, List.append_toArray, List.nil_append, List.cons_append]
  gi_wp2_with (first
    | (gi_at_range; refine wpListIn_range_own _ rfl _ 62 rfl 9 23 lawS Tryd.underlying62 _ b nn _ rfl hown ?_; intro w0 hrg0 hg0 hs0)
    | gi_in)
  go_frame
  gi_loopw [4] (fun _ wr => ∃ (left : Lit → Bool) (cnt : Nat) (ps : List OpV), wr.ranges Tryd.prog 9 opR b W.heap.size nn D0 left cnt ∧ ps.length + cnt ≤ Maps.size D0 ∧ Collected D0 left (ps.map (·.n)) ∧ (∀ p ∈ ps, Ho.find L c p.n = some p) ∧ J ps wr)
    (fun _ wr => wr.rangeLeft b W.heap.size)
  case atStart =>
    exact ⟨_, _, [], hrg0, by simp, Collected.start D0, by simp, hJ [] W w0 none h0 hg0 (fun r e => by cases e)⟩
  case round =>
    obtain ⟨left, cnt, ps, hrg, hcs, hC, hV, hJs⟩ := hrel
    gi_wp2_with (first
      | (gi_at_next; refine wpListIn_next_ranges _ rfl _ rfl 9 lawS opR encStr opV (fun key kl hk => by obtain ⟨x, hx, _⟩ := Maps.keyOf_str Tryd.underlying9 hk; exact ⟨x, hx⟩) (fun v y hv => by obtain ⟨c, rfl, _⟩ := opR_cases hv; exact ⟨c, rfl⟩) b W.heap.size nn _ _ _ rfl hrg ?_ ?_)
      | gi_in)
    · -- NOTHING IS LEFT
      intro hc0 hl0
      gi_wp2
      go_end0
      refine ⟨⟨_, rfl⟩, .inl ⟨ps, cl_perm hu hC.1 (fun x => ?_) hV, hJs⟩⟩
      rw [hC.2 x, hl0, (hD x).1]; simp
    · -- AN ENTRY HAS COME: yield(v)
      intro x y kl yd yp w2 cnt2 hkey hlk hv hat hrg2 hlt hg2 hs2 hen
      obtain ⟨x', ex, rfl, _⟩ := Maps.keyOf_str Tryd.underlying9 hkey
      obtain rfl : x = x' := encStr_inj ex
      obtain ⟨y', ec, ez⟩ := opR_cases hv
      obtain rfl : y = y' := opV_inj ec
      obtain rfl : yd = opD y := (Prod.mk.inj ez).1
      have hfy : Ho.find L c x = some y := by
        have hh : Maps.has D0 (.string x) = true := has_true_of_atKey hat
        rw [(hD x).1] at hh
        obtain ⟨y2, hy2⟩ := Option.isSome_iff_exists.1 hh
        have h3 := (hD x).2 y2 hy2 (.lit (.int .i64 0))
        rw [hat] at h3
        rw [hy2, opD_inj h3]
      have hxn : y.n = x := (find_some hfy).2.1
      have hJ2 : J ps w2 := hJ _ wr w2 (some W.heap.size) hJs hg2 (fun r e => by cases e; exact ⟨Nat.le_refl _, hrg.iter_walk⟩)
      have hyy := hY ps y w2 hJ2 (by omega)
      have hC2 : Collected D0 (fun z => left z && !z.sameKey (.string x)) ((ps ++ [y]).map (·.n)) := by
        have := hC.step hlk hat
        rw [List.map_append, List.map_cons, List.map_nil, hxn]
        exact this
      have hV2 : ∀ p ∈ ps ++ [y], Ho.find L c p.n = some p := fun p hp => (List.mem_append.1 hp).elim (hV p) (fun e => by simp at e; subst e; rw [hxn]; exact hfy)
      have HF := Lib.hid (And.intro hfy hxn)
      clear hs2 hfy hxn hkey hv hat ex ec ez
      obtain ⟨nm, hnm⟩ : ∃ nm : ByteArray, (⟨y.n.toArray⟩ : ByteArray) = nm := ⟨_, rfl⟩
      obtain ⟨ty, hty⟩ : ∃ t, y.t = t := ⟨_, rfl⟩
      obtain ⟨py, hpy⟩ : ∃ t, y.p = t := ⟨_, rfl⟩
      have HX := Lib.hid (show opV y = .agg #[.string nm, .int .i64 ty, .int .i64 py] by rw [opV, hnm, hty, hpy])
      clear hnm hty hpy
      obtain ⟨w3, hw3⟩ : ∃ w3, w2.alloc (.cells #[.string nm, .int .i64 ty, .int .i64 py] 23) = w3 := ⟨_, rfl⟩
      have hg3 : w2.grownBy w3 none := by rw [← hw3]; exact World.grownBy_alloc _ _ _
      have hJ3 : J ps w3 := hJ _ w2 w3 none hJ2 hg3 (fun r e => by cases e)
      have hrg3 := hrg2.of_walks (show KeepsWalks w2 w3 by rw [← hw3]; exact KeepsWalks.alloc _ _)
      obtain ⟨fn, tmps, assign, body, hy, hR⟩ := hY ps y w3 hJ3 (by omega)
      rw [HX.out] at hy hen ⊢
      have hlen3 : (ps ++ [y]).length + cnt2 ≤ Maps.size D0 := by simp; omega
      have HJ := Lib.hid (And.intro hC2 (And.intro hV2 hlen3))
      have HL := Lib.hid (And.intro hlt (And.intro hcs hD))
      have HRG := Lib.hid hrg
      have HRG3 := Lib.hid hrg3
      clear hC2 hV2 hlen3 hlt hcs hJ hJ2 hJ3 hJs hrg3 hrg2 hrg hg2 hg3 hyy hY hC hV hlk hown hu hD h0 hrg0 hg0
      subst hw3
      gi_wp2
      refine hR.mono ?_
      rintro e W3 (⟨rfl, hJ3, hk3⟩ | ⟨rfl, hJx3⟩)
      · have HK := Lib.hid (And.intro hJ3 hk3)
        clear hJ3 hk3
        gi_wp2
        go_roundw
        case rel => exact ⟨_, cnt2, ps ++ [y], HRG3.out.of_walks HK.out.2, HJ.out.2.2, HJ.out.1, HJ.out.2.1, HK.out.1⟩
        case measure => rw [(HRG3.out.of_walks HK.out.2).left_eq, HRG.out.left_eq]; exact HL.out.1
      · have HK := Lib.hid hJx3
        clear hJx3
        gi_wp2
        refine bodyPost_ret (results_none rfl _ _ _) rfl ?_
        exact ⟨⟨_, rfl⟩, .inr ⟨_, trivial, HK.out⟩⟩
/-- a map that is a class of a table has just as many entries -/
theorem size_cl {W : World} {b nn c : Nat} {L : List OpV} {D0 : DataW Unit} (hu : Uq L) (hown : W.ownsMap Tryd.prog 9 opR b nn D0) (hD : ∀ nm : List UInt8, Maps.has D0 (.string nm) = (Ho.find L c nm).isSome ∧ ∀ x, Ho.find L c nm = some x → ∀ z, D0.atKey (.string nm) z = opD x) : Maps.size D0 ≤ (clL L c).length := by
  have hc : Collected D0 (fun _ => false) ((clL L c).map (·.n)) := by
    refine ⟨?_, fun x => ?_⟩
    · refine List.pairwise_map.2 ?_
      refine List.Pairwise.imp_of_mem ?_ (List.Pairwise.filter _ hu : (clL L c).Pairwise _)
      intro a b ha hb h e
      have h1 := of_decide_eq_true (List.mem_filter.1 ha).2
      have h2 := of_decide_eq_true (List.mem_filter.1 hb).2
      exact h ⟨e, h1.trans h2.symm⟩
    · rw [(hD x).1]
      constructor
      · intro hx
        obtain ⟨y, hy, rfl⟩ := List.mem_map.1 hx
        obtain ⟨a, b⟩ := List.mem_filter.1 hy
        have hf := hu.find a
        rw [of_decide_eq_true b] at hf
        exact ⟨by rw [hf]; rfl, rfl⟩
      · rintro ⟨h, _⟩
        obtain ⟨y, hy⟩ := Option.isSome_iff_exists.1 h
        obtain ⟨a, b, e⟩ := find_some hy
        exact List.mem_map.2 ⟨y, List.mem_filter.2 ⟨a, decide_eq_true e⟩, b⟩
  have hp := hc.perm hown lawS Tryd.underlying9 (fun _ => rfl)
  obtain ⟨es, rfl⟩ := hown.isMap
  have hl := hp.length_eq
  simp only [strKeys, List.length_map] at hl
  rw [Maps.size_eq]
  omega
/-- what maps.Values gives at a class of a table -/
theorem values_stops (F : Fence) (n : Nat) (h7 : F.fn 50) (hro : F.round = none) (hn : 1 ≤ n) (Bm b nn c : Nat) (L : List OpV) (hu : Uq L) (w : World) (hBm : Bm < w.heap.size)
    (hm : w.cell? ⟨Bm, 0, none⟩ = some (.map (some b))) (hmap : MapOf Tryd.prog 9 w b nn c L) :
    SeqStops F n Tryd.prog 50 #[.pointer (some ⟨Bm, 0, none⟩)] opV (fun xs => xs.Perm (clL L c)) (fun _ => True) (clL L c).length w := fun l J Jx W hW hJ _ hY h0 => by
  obtain ⟨D, hown, hD⟩ := hmap.below hW hmap.lt
  refine values1_in F n h7 hro hn l Bm b nn c L D hu hD J Jx (fun pre x W1 hJ1 hlen => hY pre x W1 hJ1 (Nat.lt_of_lt_of_le hlen (size_cl hu hown hD))) W hJ ((hW.cell (p := ⟨Bm, 0, none⟩) hBm).trans hm) hown h0
end Go.Proofs.YtfdcponamkfcaaaDoor
