import Derived.Test.YtgfeainpeplphaaDoorHd
import Derived.Test.YtgfeainpeplphaaDoorHx
import Derived.Deep.Strs
import Derived.Deep.Slices
import Derived.SizedLaws
import Derived.Deep.DeepHandedRow
import Derived.Deep.DeepWitnessRowRef
import Derived.Lib.LaidTab
import Derived.Lay
import Derived.Test.YtgfeainpeplphaaDoorTie
import Derived.Test.YtgfeainpeplphaaDoorCards
import Derived.Lib.LaidU8T
import Derived.ProofKit
import Derived.OpenShut
import Derived.JoinedCond
import Derived.JoinedOf
import Derived.JoinedAt
import Derived.ChangeSame
import Derived.ChangeSlices
import Derived.RowKit3
import Derived.Carry
import Derived.Lib.SmallJoins
namespace Ht
/-! ### names that are no longer than a program can count -/
mutual
def Fits : Tm → Prop
  | .mk _ n _ _ _ ts => n.length ≤ 4611686018427387904 ∧ Fitss ts
def Fitss : List Tm → Prop
  | [] => True
  | a :: ts => Fits a ∧ Fitss ts
end
theorem Fitss.iff : ∀ {ts : List Tm}, Fitss ts ↔ ∀ a ∈ ts, Fits a
  | [] => by simp [Fitss]
  | a :: ts => by rw [Fitss, Fitss.iff (ts := ts)]; simp
theorem Fits.iff {t : Tm} : Fits t ↔ t.n.length ≤ 4611686018427387904 ∧ ∀ a ∈ t.as, Fits a := by
  obtain ⟨k, n, m, b, v, ts⟩ := t
  rw [Fits, Fitss.iff]
  rfl
end Ht
namespace Go.Proofs.YtgfeainpeplphaaDoor
open Go.ChangeShapes Go.WideShapes Go.ChangeAt Go.RowKit Go.Joins Go.Deep Hb Ht
set_option linter.unusedVariables false
set_option linter.unusedSimpArgs false
theorem ownK : ownKnob Tryd.prog.godebug = none := by kernel_rfl
theorem laidK : laidOutB Tryd.prog = true := by kernel_rfl
section
variable {H : Type} {enc : TypeId × Value → H} {P : Program}
/-- what came in reads as it did -/
theorem args_stay (hl : laidOutB P = true) {W W' : World} (hb : Below W.heap.size W W') : ∀ (ts : List TypeId) (vs : List Value) (ds : List (DataW H)) (ps : List MemPlace),
    (∀ t ∈ ts, P.readableRec t = true ∧ t < P.types.size) → DataW.TrodAll enc P W 0 (fun _ => true) true ts vs ds ps → (∀ x ∈ ps, x.block < W.heap.size) →
    ∀ sp : Nat → Bool, (∀ x ∈ ps, sp x.block = true) → DataW.TrodAll enc P W' 0 sp true ts vs ds ps
  | [], vs, ds, ps, _, h, _, _, _ => by
    cases vs <;> cases ds <;> simp [DataW.TrodAll] at h ⊢
    exact h
  | t :: ts, vs, ds, ps, hr, h, hlt, sp, hs => by
    obtain ⟨v, vs', d, ds', p, q, rfl, rfl, rfl, h1, h2⟩ := trodAll_cons h
    have hp : ∀ x ∈ p, x.block < W.heap.size := fun x hx => hlt x (List.mem_append_left _ hx)
    have hq : ∀ x ∈ q, x.block < W.heap.size := fun x hx => hlt x (List.mem_append_right _ hx)
    exact trodAll_cons_mk (WideElems.Trod_stays hl (hr t (by simp)).1 (hr t (by simp)).2 h1 (fun x hx => hb.same (hp x hx)) (fun x hx => hs x (List.mem_append_left _ hx)))
      (args_stay hl hb ts vs' ds' q (fun t ht => hr t (List.mem_cons_of_mem _ ht)) h2 hq sp (fun x hx => hs x (List.mem_append_right _ hx)))

/-- the end of a law: it answers true, and what stood before the call is as it was -/
theorem law_end {f : Func} {s : ChangeSpec} {fresh handsOn again : Bool} {W W' : World} {args : Array Value} {ds gs : List (DataW H)} {before : List MemPlace} {bt : TypeId}
    (hl : laidOutB P = true) (hr : ∀ t ∈ f.params.toList, P.readableRec t = true ∧ t < P.types.size) (hres : f.resultTypes = #[bt]) (hbt : P.underlying bt = some .bool)
    (hv : s.vars = []) (hW : DataW.Whole enc P f.params.toList s.vars false W args.toList ds gs before) (hfn : s.fn H (ds ++ gs) = { results := [.lit (.bool true)], args := ds }) (hb : Below W.heap.size W W') :
    s.post enc P f false fresh handsOn again W args (.bool true) W' := by
  have hlt : ∀ p ∈ before, p.block < W.heap.size := fun p hp => hW.lt p hp
  have hW2 := hW
  obtain ⟨p, q, hA, hV, rfl, hz, _⟩ := hW2
  rw [hv] at hV
  obtain ⟨rfl, rfl⟩ := trodVars_none hV
  rw [List.append_nil] at *
  have hst := args_stay hl hb _ _ _ _ hr hA hlt
  have hR : ∀ (b : Nat) (sp : Nat → Bool) (hd : Bool), DataW.TrodAll enc P W' b sp hd f.resultTypes.toList ((Value.bool true).resultList f.resultTypes.size) (s.fn H ds).results [] := by
    intro b sp hd
    rw [hfn, hres]
    exact ⟨[], [], shut_bool hbt true, rfl, rfl⟩
  refine ⟨ds, [], p, [], p, [], by simpa using hW, by simpa using hR _ _ _, ?_, ?_, World.keptBut_mono (fun x hx => ⟨hx, .inr (.inl hx)⟩) (hb.frame (· ∈ p)), fun _ => ⟨?_, [.lit (.bool true)] ++ ds, [], p, ⟨p, [], ?_, ?_, by simp, ?_, fun h => by cases h⟩, fun x hx _ => hx⟩⟩
  · rw [List.append_nil, hfn]; exact hst _ (fun x hx => by simpa using hlt x hx)
  · rw [List.append_nil, hfn, hv]; rfl
  · intro j t r ht hj
    rw [hres] at ht hj
    cases j with
    | zero =>
      simp at ht hj
      subst ht
      obtain rfl : r = .bool true := by simpa [Value.resultList] using hj.symm
      exact okWide_bool_mk hbt true
    | succ j => simp at ht
  · have h1 := hR 0 (fun _ => true) true
    rw [hfn] at h1
    have := trodAll_append (hst (fun _ => true) (fun _ _ => rfl)) h1
    simpa using this
  · rw [hv]; rfl
  · intro b off hp
    rw [hb.frozen (hlt _ hp)]
    exact hz b off hp
end

/-! ### an argument of the type api.Term, opened -/
theorem i64_of_wf {x : Int} (h : (Lit.int .i64 x).wf = true) : -9223372036854775808 ≤ x ∧ x ≤ 9223372036854775807 := by
  simp [Lit.wf, IntKind.has, IntKind.min, IntKind.max, IntKind.bits, IntKind.signed] at h
  omega
theorem u64_of_wf {x : Int} (h : (Lit.int .u64 x).wf = true) : 0 ≤ x ∧ x < 18446744073709551616 := by
  simp [Lit.wf, IntKind.has, IntKind.min, IntKind.max, IntKind.bits, IntKind.signed] at h
  omega
theorem spot_none {w : World} {a : Addr} {v : Value} (h : w.cell? (a.add 0) = some v) : ∃ b o, a = ⟨b, o, none⟩ ∧ b < w.heap.size := by
  obtain ⟨b, off, spot⟩ := a
  have hspot : spot = none := by simpa [Addr.add] using World.cell?_spot h
  subst hspot
  refine ⟨b, off, rfl, ?_⟩
  have := World.block_lt_of_cell? _ _ h
  simpa [Addr.add] using this
theorem add_add (a : Addr) (m k : Nat) : (a.add m).add k = a.add (m + k) := by
  unfold Addr.add
  by_cases h1 : m = 0
  · subst h1; simp
  · by_cases h2 : k = 0
    · subst h2; simp [h1]
    · simp [h1, h2, Nat.add_assoc]
theorem list6 {α : Type} {l : List α} (h : l.length = 6) : ∃ a b c d e f, l = [a, b, c, d, e, f] := by
  match l, h with
  | [a, b, c, d, e, f], _ => exact ⟨a, b, c, d, e, f, rfl⟩
theorem cellsTerm : Tryd.prog.cellsOf 25 = 6 := by kernel_rfl
theorem bytesTerm : Tryd.prog.bytesOf 25 = 80 := by kernel_rfl
theorem trod_six {H : Type} {enc : TypeId × Value → H} {P : Program} {w : World} {base : Nat} {spare : Nat → Bool} {held : Bool} {t : TypeId} {f0 f1 f2 f3 f4 f5 : Field} {fuel : Nat} {cs : List Value} {x : DataW H × List MemPlace} (ht : P.underlying t = some (.struct #[f0, f1, f2, f3, f4, f5])) (h : DataW.trod enc P w base spare held fuel t cs = some x) :
    ∃ y0 y1 y2 y3 y4 y5 n, fuel = n + 1 ∧ x.1 = .agg [y0.1, y1.1, y2.1, y3.1, y4.1, y5.1] ∧ cs.length = P.cellsOf t ∧ DataW.trod enc P w base spare held n f0.type ((cs.drop f0.offset).take (P.cellsOf f0.type)) = some y0 ∧
      DataW.trod enc P w base spare held n f1.type ((cs.drop f1.offset).take (P.cellsOf f1.type)) = some y1 ∧ DataW.trod enc P w base spare held n f2.type ((cs.drop f2.offset).take (P.cellsOf f2.type)) = some y2 ∧
      DataW.trod enc P w base spare held n f3.type ((cs.drop f3.offset).take (P.cellsOf f3.type)) = some y3 ∧ DataW.trod enc P w base spare held n f4.type ((cs.drop f4.offset).take (P.cellsOf f4.type)) = some y4 ∧
      DataW.trod enc P w base spare held n f5.type ((cs.drop f5.offset).take (P.cellsOf f5.type)) = some y5 := by
  obtain ⟨xs, n, hn, rfl, hl, hlen, hf⟩ := DataW.trod_struct ht h
  match xs, hlen with
  | [y0, y1, y2, y3, y4, y5], _ => exact ⟨y0, y1, y2, y3, y4, y5, n, hn, rfl, hl, by simpa using hf 0 f0 rfl, by simpa using hf 1 f1 rfl, by simpa using hf 2 f2 rfl, by simpa using hf 3 f3 rfl, by simpa using hf 4 f4 rfl, by simpa using hf 5 f5 rfl⟩
theorem weights_all_mem {H : Type} {P : Program} {e : TypeId} {m : Nat} : ∀ {l : List (DataW H)} {d : DataW H}, d ∈ l → m ∈ d.weights P e → m ∈ DataW.weightsAll P e l
  | d0 :: r, d, hd, hm => by
    rw [DataW.weightsAll, List.mem_append]
    rcases List.mem_cons.1 hd with rfl | hd
    · exact .inl hm
    · exact .inr (weights_all_mem hd hm)
set_option maxRecDepth 1000000 in
theorem trod_term {H : Type} {enc : TypeId × Value → H} {W : World} {sp : Nat → Bool} (fuel : Nat) : ∀ (cs : List Value) (x : DataW H × List MemPlace), DataW.trod enc Tryd.prog W 0 sp true fuel 25 cs = some x → (∀ m ∈ x.1.weights Tryd.prog 25, m ≤ reachBytes) →
    ∃ t sl, cs = cells6 t sl ∧ TAtP W (fun b => b < W.heap.size) t sl ∧ Fits t := by
  induction fuel using Nat.strongRecOn with
  | _ fuel ih =>
    intro cs x h hw
    obtain ⟨y0, y1, y2, y3, y4, y5, n, rfl, hx, hl, g0, g1, g2, g3, g4, g5⟩ := trod_six Tryd.underlying25 h
    rw [cellsTerm] at hl
    obtain ⟨c0, c1, c2, c3, c4, c5, rfl⟩ := list6 hl
    have e9 : Tryd.prog.cellsOf 9 = 1 := by kernel_rfl
    have e3 : Tryd.prog.cellsOf 3 = 1 := by kernel_rfl
    have e6 : Tryd.prog.cellsOf 22 = 1 := by kernel_rfl
    have e7 : Tryd.prog.cellsOf 23 = 1 := by kernel_rfl
    obtain ⟨u0, k0, _, w0⟩ := DataW.trod_int Tryd.underlying3 g0
    obtain ⟨s1, k1, hy1, hs1⟩ := DataW.trod_string Tryd.underlying9 g1
    obtain ⟨s2, k2, _, hs2⟩ := DataW.trod_string Tryd.underlying9 g2
    obtain ⟨u3, k3, _, w3⟩ := DataW.trod_int Tryd.underlying22 g3
    obtain ⟨u4, k4, _, w4⟩ := DataW.trod_int Tryd.underlying3 g4
    simp [e9] at k1 k2
    simp [e3] at k0 k4
    simp [e6] at k3
    subst k0 k1 k2 k3 k4
    simp [e7] at g5
    have hw5 : ∀ m ∈ y5.1.weights Tryd.prog 23, m ≤ reachBytes := by
      intro m hm
      refine hw m ?_
      rw [hx, DataW.weights, Tryd.underlying25]
      exact DataW.weights_mem_each (j := 5) rfl rfl m hm
    have hw1 : s1.data.toList.length ≤ 4611686018427387904 := by
      have h1 := hw s1.data.toList.length (by
        rw [hx, DataW.weights, Tryd.underlying25]
        exact DataW.weights_mem_each (j := 1) rfl rfl _ (by rw [hy1]; simp [DataW.weights]))
      unfold reachBytes at h1
      omega
    have hok : ∀ ts, okF (.mk u0 s1.data.toList s2.data.toList u3 u4 ts) := fun ts => ⟨by simpa [Tm.n] using hs1, by simpa [Tm.m] using hs2, u64_of_wf w3, i64_of_wf w4, i64_of_wf w0⟩
    rcases DataW.trod_slice Tryd.underlying23 g5 with ⟨e1, _⟩ | ⟨a, len, cap, elems, rest, m, rfl, e1, hx5, _, hlc, hcm, hlen2, hel, _⟩
    · simp at e1
      subst e1
      refine ⟨.mk u0 s1.data.toList s2.data.toList u3 u4 [], .slice none 0 0, rfl, ?_, Fits.iff.2 ⟨hw1, fun a ha => by cases ha⟩⟩
      rw [TAtP.iff]
      exact ⟨none, 0, rfl, Nat.le_refl _, by simp [maxLen], Nat.zero_le _, hok [], fun hne => absurd rfl hne⟩
    · simp at e1
      subst e1
      rw [hx5] at hw5
      have hsz : len ≤ maxArgs := by
        have := hw5 ((elems.length + rest.length) * 80) (by rw [DataW.weights, Tryd.underlying23, ← bytesTerm]; simp)
        unfold reachBytes at this
        unfold maxArgs
        omega
      obtain ⟨V, hV⟩ := choose_lt (α := Tm) (n := len) (p := fun i y => ∃ sl, (∀ k, k < 6 → W.cell? (a.add (i * 6 + k)) = (cells6 y sl)[k]?) ∧ TAtP W (fun b => b < W.heap.size) y sl ∧ Fits y) (fun i hi => by
        have h1 := hel i hi
        rw [List.getElem?_eq_getElem (by omega), Option.bind_eq_some_iff] at h1
        obtain ⟨cs', h2, h3⟩ := h1
        obtain ⟨t, sl, rfl, ht, hft⟩ := ih m (by omega) cs' _ h3 (fun q hq => hw5 q (by
          rw [DataW.weights, Tryd.underlying23]
          refine List.mem_cons_of_mem _ (List.mem_append_left _ (weights_all_mem (List.mem_map.2 ⟨_, List.getElem_mem _, rfl⟩) hq))))
        refine ⟨t, sl, fun k hk => ?_, ht, hft⟩
        rw [cellsTerm] at h2
        have h4 := (World.cells?_some h2).2.2 k hk
        rw [← add_add, h4])
      refine ⟨.mk u0 s1.data.toList s2.data.toList u3 u4 ((List.range len).map V), .slice (some a) len cap, rfl, ?_, Fits.iff.2 ⟨hw1, fun y hy => by
        obtain ⟨i, hi, rfl⟩ := List.mem_map.1 hy
        obtain ⟨_, _, _, hf⟩ := hV i (by simpa using hi)
        exact hf⟩⟩
      rw [TAtP.iff]
      refine ⟨some a, cap, by simp [Tm.as], by simpa [Tm.as] using hlc, hcm, by simpa [Tm.as] using hsz, hok _, fun hne => ?_⟩
      have hn0 : 0 < len := Nat.pos_of_ne_zero (fun e => hne (by subst e; rfl))
      obtain ⟨sl0, hc0, _⟩ := hV 0 hn0
      obtain ⟨b, o, rfl, hb⟩ := spot_none (hc0 0 (by omega))
      refine ⟨b, o, rfl, hb, fun i x hx => ?_⟩
      obtain ⟨hi, e⟩ := List.getElem?_eq_some_iff.1 hx
      have hin : i < len := by simpa [Tm.as] using hi
      simp only [Tm.as, List.getElem_map, List.getElem_range] at e
      obtain ⟨sl, hc, ht, _⟩ := hV i hin
      rw [← e]
      exact ⟨sl, fun j hj => by rw [← hc j hj, addr_add, Nat.add_assoc], ht⟩
set_option maxRecDepth 1000000 in
theorem open_Term {H : Type} {enc : TypeId × Value → H} {W : World} {base : Nat} {v : Value} {d : DataW H} {p : List MemPlace} (hval : Value.okWide Tryd.prog W .any base 25 v)
    (h : DataW.Trod enc Tryd.prog W 0 (fun _ => true) true 25 v d p) (hw : ∀ m ∈ d.weights Tryd.prog 25, m ≤ reachBytes) : ∃ t sl, v = valT t sl ∧ TAt W W.heap.size t sl ∧ Fits t := by
  obtain ⟨cs, rfl, hsz⟩ := okWide_struct Tryd.underlying25 hval
  obtain ⟨fuel, hf⟩ := h
  obtain ⟨t, sl, e, ht, hft⟩ := trod_term fuel _ _ hf hw
  refine ⟨t, sl, ?_, ht, hft⟩
  have e2 : cs.toList = cells6 t sl := by simpa [Value.cells] using e
  show Value.agg cs = .agg (cells6 t sl).toArray
  rw [← e2]
/-- an argument's weights -/
theorem arg_weights {H : Type} {d : DataW H} {l : List (DataW H)} {ts : List TypeId} {j : Nat} {t : TypeId} (hw : (DataW.weightsEach Tryd.prog ts l).all (· ≤ reachBytes) = true) (ht : ts[j]? = some t) (hd : l[j]? = some d) : ∀ m ∈ d.weights Tryd.prog t, m ≤ reachBytes := fun m hm => by
  have := List.all_eq_true.1 hw m (DataW.weights_mem_each ht hd m hm)
  simpa using this
theorem dcgOwn : ownKnob Tryd.prog.godebug = none := by kernel_rfl
noncomputable def dcgWorld (os : Os) : World := World.laidAll Tryd.prog os Rows.dcgFreshRow.laid
set_option maxRecDepth 100000 in
theorem dcgWorld_met (os : Os) (args : Array Value) : laidMetH Tryd.prog Rows.dcgFreshRow.laid ((dcgWorld os).forCall (fun _ _ => 0) ⟨#[], args, []⟩).memory := by
  rw [MakeChecks.laidMetH_plain _ _ _ (by kernel_rfl)]
  exact laidMet_laidAll _ (by kernel_rfl) (by kernel_rfl)
set_option maxRecDepth 100000 in
theorem vtabs_laid {W : World} (h : laidMetH Tryd.prog Rows.dcgFreshRow.laid W) : VTabs W :=
  utf8Tabs_of_readsT (U8Types.of196 Tryd.laysValid) ⟨by kernel_rfl, by kernel_rfl, by kernel_rfl, by kernel_rfl, by kernel_rfl, by kernel_rfl, by kernel_rfl⟩ (Lib.laidMet.reads h (.tail _ (.head _))) (Lib.laidMet.reads h (.head _))
end Go.Proofs.YtgfeainpeplphaaDoor
