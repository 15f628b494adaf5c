import Derived.Test.YtggdmhkdmkldoaaCk
import Derived.ProofKit
import Derived.OpenShut
import Derived.JoinedCond
import Derived.JoinedOf
import Derived.JoinedAt
import Derived.ChangeSame
import Derived.ChangeSlices
import Derived.RowKit3
import Derived.Carry
import Derived.Lib.SmallJoins
namespace Go.Proofs.Ytggdmhkdmkldoaa
open Go.ChangeShapes Go.WideShapes Go.ChangeAt Go.RowKit Go.Joins Hb

theorem ownK : ownKnob Try.prog.godebug = none := by kernel_rfl
theorem laidK : laidOutB Try.prog = true := by kernel_rfl
theorem cellsU : Try.prog.cellsOf 48 = 1 := by kernel_rfl
theorem cellsInt : Try.prog.cellsOf 24 = 2 := by kernel_rfl

section
variable {H : Type} {enc : TypeId × Value → H} {P : Program}
/-- what came in reads as it did -/
theorem args_stay (hl : laidOutB P = true) {W W' : World} (hb : Below W.heap.size W W') : ∀ (ts : List TypeId) (vs : List Value) (ds : List (DataW H)) (ps : List MemPlace),
    (∀ t ∈ ts, P.readableRec t = true ∧ t < P.types.size) → DataW.TrodAll enc P W 0 (fun _ => true) true ts vs ds ps → (∀ x ∈ ps, x.block < W.heap.size) →
    ∀ sp : Nat → Bool, (∀ x ∈ ps, sp x.block = true) → DataW.TrodAll enc P W' 0 sp true ts vs ds ps
  | [], vs, ds, ps, _, h, _, _, _ => by
    cases vs <;> cases ds <;> simp [DataW.TrodAll] at h ⊢
    exact h
  | t :: ts, vs, ds, ps, hr, h, hlt, sp, hs => by
    obtain ⟨v, vs', d, ds', p, q, rfl, rfl, rfl, h1, h2⟩ := trodAll_cons h
    have hp : ∀ x ∈ p, x.block < W.heap.size := fun x hx => hlt x (List.mem_append_left _ hx)
    have hq : ∀ x ∈ q, x.block < W.heap.size := fun x hx => hlt x (List.mem_append_right _ hx)
    exact trodAll_cons_mk (WideElems.Trod_stays hl (hr t (by simp)).1 (hr t (by simp)).2 h1 (fun x hx => hb.same (hp x hx)) (fun x hx => hs x (List.mem_append_left _ hx)))
      (args_stay hl hb ts vs' ds' q (fun t ht => hr t (List.mem_cons_of_mem _ ht)) h2 hq sp (fun x hx => hs x (List.mem_append_right _ hx)))

/-- the end of a law: it answers true, and what stood before the call is as it was -/
theorem law_end {f : Func} {s : ChangeSpec} {fresh handsOn again : Bool} {W W' : World} {args : Array Value} {ds gs : List (DataW H)} {before : List MemPlace} {bt : TypeId}
    (hl : laidOutB P = true) (hr : ∀ t ∈ f.params.toList, P.readableRec t = true ∧ t < P.types.size) (hres : f.resultTypes = #[bt]) (hbt : P.underlying bt = some .bool)
    (hv : s.vars = []) (hW : DataW.Whole enc P f.params.toList s.vars false W args.toList ds gs before) (hfn : s.fn H (ds ++ gs) = { results := [.lit (.bool true)], args := ds }) (hb : Below W.heap.size W W') :
    s.post enc P f false fresh handsOn again W args (.bool true) W' := by
  have hlt : ∀ p ∈ before, p.block < W.heap.size := fun p hp => hW.lt p hp
  have hW2 := hW
  obtain ⟨p, q, hA, hV, rfl, hz, _⟩ := hW2
  rw [hv] at hV
  obtain ⟨rfl, rfl⟩ := trodVars_none hV
  rw [List.append_nil] at *
  have hst := args_stay hl hb _ _ _ _ hr hA hlt
  have hR : ∀ (b : Nat) (sp : Nat → Bool) (hd : Bool), DataW.TrodAll enc P W' b sp hd f.resultTypes.toList ((Value.bool true).resultList f.resultTypes.size) (s.fn H ds).results [] := by
    intro b sp hd
    rw [hfn, hres]
    exact ⟨[], [], shut_bool hbt true, rfl, rfl⟩
  refine ⟨ds, [], p, [], p, [], by simpa using hW, by simpa using hR _ _ _, ?_, ?_, World.keptBut_mono (fun x hx => ⟨hx, .inr (.inl hx)⟩) (hb.frame (· ∈ p)), fun _ => ⟨?_, [.lit (.bool true)] ++ ds, [], p, ⟨p, [], ?_, ?_, by simp, ?_, fun h => by cases h⟩, fun x hx _ => hx⟩⟩
  · rw [List.append_nil, hfn]; exact hst _ (fun x hx => by simpa using hlt x hx)
  · rw [List.append_nil, hfn, hv]; rfl
  · intro j t r ht hj
    rw [hres] at ht hj
    cases j with
    | zero =>
      simp at ht hj
      subst ht
      obtain rfl : r = .bool true := by simpa [Value.resultList] using hj.symm
      exact okWide_bool_mk hbt true
    | succ j => simp at ht
  · have h1 := hR 0 (fun _ => true) true
    rw [hfn] at h1
    have := trodAll_append (hst (fun _ => true) (fun _ _ => rfl)) h1
    simpa using this
  · rw [hv]; rfl
  · intro b off hp
    rw [hb.frozen (hlt _ hp)]
    exact hz b off hp
end

set_option maxRecDepth 100000 in
/-- an argument of the type Int, opened -/
theorem open_Int {H : Type} {enc : TypeId × Value → H} {W : World} {base : Nat} {v : Value} {d : DataW H} {p : List MemPlace} (hval : Value.okWide Try.prog W .any base 24 v)
    (h : DataW.Trod enc Try.prog W 0 (fun _ => true) true 24 v d p) : ∃ (neg : Bool) (A : Option Addr) (n c : Nat) (l : List Nat), v = .agg #[.bool neg, .slice A n c] ∧ SlU W W.heap.size A n c l ∧ (A = none → c = 0) := by
  obtain ⟨v0, v1, y0, y1, m, rfl, _, _, h0, h1⟩ := open_agg2 Try.underlying24 (by kernel_rfl) cellsInt hval h
  obtain ⟨neg, e0, _⟩ := DataW.trod_bool Try.underlying4 h0
  simp at e0
  subst e0
  rcases open_ints Try.underlying22 Try.underlying48 cellsU h1 with ⟨e1, _⟩ | ⟨a, n, c, zs, e1, _, hnc, hcm, hz, _, hcell, hwf⟩
  · simp at e1
    subst e1
    exact ⟨neg, none, 0, 0, [], rfl, SlU.nil _ _ _ _ (by simp [maxLen]), fun _ => rfl⟩
  · simp at e1
    subst e1
    simp only [if_true] at hz
    have hw : ∀ i, i < c → 0 ≤ zs.getD i 0 ∧ zs.getD i 0 < 4294967296 := by
      intro i hi
      have hm : zs.getD i 0 ∈ zs := by
        rw [List.getD_eq_getElem?_getD, List.getElem?_eq_getElem (by omega)]
        exact List.getElem_mem _
      have := hwf _ hm
      clear hm
      generalize zs.getD i 0 = zz at *
      simp [Lit.wf, IntKind.min, IntKind.max, IntKind.signed, IntKind.bits] at this
      omega
    refine ⟨neg, some a, n, c, (zs.take n).map Int.toNat, rfl, ⟨by simp; omega, hnc, hcm, ?_, ?_⟩, fun h => by cases h⟩
    · intro x hx
      obtain ⟨z, hz1, rfl⟩ := List.mem_map.1 hx
      obtain ⟨i, hi, rfl⟩ := List.getElem_of_mem hz1
      rw [List.length_take] at hi
      have h5 := hw i (by omega)
      have e : zs.getD i 0 = zs[i]'(by omega) := by rw [List.getD_eq_getElem?_getD, List.getElem?_eq_getElem (by omega)]; rfl
      rw [List.getElem_take, ← e]
      show (zs.getD i 0).toNat < 4294967296
      omega
    · intro hne
      have hn : 0 < n := by
        rcases Nat.eq_zero_or_pos n with h | h
        · exfalso; apply hne; subst h; simp [u32s]
        · exact h
      have g0 := hcell 0 (by omega)
      obtain ⟨b, off, spot⟩ := a
      have hspot : spot = none := by simpa [Addr.add] using World.cell?_spot g0
      subst hspot
      refine ⟨b, off, rfl, ?_, fun i u hu => ?_⟩
      · have := World.block_lt_of_cell? _ _ g0
        simpa [Addr.add] using this
      · have hi : i < n := by
          have := (List.getElem?_eq_some_iff.1 hu).1
          rw [u32s_length, List.length_map, List.length_take] at this
          omega
        have h2 := hcell i (by omega)
        rw [addr_add] at h2
        rw [h2, ← hu, u32s_get (by simp; omega)]
        congr 2
        have h3 := hw i (by omega)
        have e : zs.getD i 0 = zs[i]'(by omega) := by rw [List.getD_eq_getElem?_getD, List.getElem?_eq_getElem (by omega)]; rfl
        have e2 : ((zs.take n).map Int.toNat).getD i 0 = (zs[i]'(by omega)).toNat := by
          rw [List.getD_eq_getElem?_getD, List.getElem?_map, List.getElem?_take_of_lt hi, List.getElem?_eq_getElem (by omega)]; rfl
        rw [e2, e]
        rw [e] at h3
        omega
end Go.Proofs.Ytggdmhkdmkldoaa
