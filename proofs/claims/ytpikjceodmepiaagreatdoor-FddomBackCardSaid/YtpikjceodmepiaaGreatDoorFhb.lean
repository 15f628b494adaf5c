/- The law FddomBack of layer 9 answers true for every input, and leaves its arguments as they were; its two listed variables hold what the program's text lays. -/
import Derived.Test.YtpikjceodmepiaaGreatDoorFgb
import Derived.Test.YtpikjceodmepiaaGreatDoorZcb
import Derived.Deep.DeepWitnessRowRef
import Derived.Lib.LaidTab
import Derived.Test.YtpikjceodmepiaaGreatDoorCards
import Derived.Test.YtpikjceodmepiaaGreatDoorTie
import Derived.Lay
set_option linter.unusedVariables false
set_option linter.unusedSimpArgs false
namespace Go.Proofs.YtpikjceodmepiaaGreatDoor
open Go.ChangeShapes Go.WideShapes Go.ChangeAt Go.RowKit Go.Joins Hb Ht Hf
set_option linter.unusedVariables false
set_option linter.unusedSimpArgs false

theorem laidK : laidOutB Tryz.prog = true := by kernel_rfl
section
variable {H : Type} {enc : TypeId × Value → H} {P : Program}
/-- what came in reads as it did -/
theorem args_stay (hl : laidOutB P = true) {W W' : World} (hb : Below W.heap.size W W') : ∀ (ts : List TypeId) (vs : List Value) (ds : List (DataW H)) (ps : List MemPlace),
    (∀ t ∈ ts, P.readableRec t = true ∧ t < P.types.size) → DataW.TrodAll enc P W 0 (fun _ => true) true ts vs ds ps → (∀ x ∈ ps, x.block < W.heap.size) →
    ∀ sp : Nat → Bool, (∀ x ∈ ps, sp x.block = true) → DataW.TrodAll enc P W' 0 sp true ts vs ds ps
  | [], vs, ds, ps, _, h, _, _, _ => by
    cases vs <;> cases ds <;> simp [DataW.TrodAll] at h ⊢
    exact h
  | t :: ts, vs, ds, ps, hr, h, hlt, sp, hs => by
    obtain ⟨v, vs', d, ds', p, q, rfl, rfl, rfl, h1, h2⟩ := trodAll_cons h
    have hp : ∀ x ∈ p, x.block < W.heap.size := fun x hx => hlt x (List.mem_append_left _ hx)
    have hq : ∀ x ∈ q, x.block < W.heap.size := fun x hx => hlt x (List.mem_append_right _ hx)
    exact trodAll_cons_mk (WideElems.Trod_stays hl (hr t (by simp)).1 (hr t (by simp)).2 h1 (fun x hx => hb.same (hp x hx)) (fun x hx => hs x (List.mem_append_left _ hx)))
      (args_stay hl hb ts vs' ds' q (fun t ht => hr t (List.mem_cons_of_mem _ ht)) h2 hq sp (fun x hx => hs x (List.mem_append_right _ hx)))

/-- the end of a law: it answers true, and what stood before the call is as it was -/
theorem law_end {f : Func} {s : ChangeSpec} {fresh handsOn again : Bool} {W W' : World} {args : Array Value} {ds gs : List (DataW H)} {before : List MemPlace} {bt : TypeId}
    (hl : laidOutB P = true) (hr : ∀ t ∈ f.params.toList, P.readableRec t = true ∧ t < P.types.size) (hres : f.resultTypes = #[bt]) (hbt : P.underlying bt = some .bool)
    (hv : s.vars = []) (hW : DataW.Whole enc P f.params.toList s.vars false W args.toList ds gs before) (hfn : s.fn H (ds ++ gs) = { results := [.lit (.bool true)], args := ds }) (hb : Below W.heap.size W W') :
    s.post enc P f false fresh handsOn again W args (.bool true) W' := by
  have hlt : ∀ p ∈ before, p.block < W.heap.size := fun p hp => hW.lt p hp
  have hW2 := hW
  obtain ⟨p, q, hA, hV, rfl, hz, _⟩ := hW2
  rw [hv] at hV
  obtain ⟨rfl, rfl⟩ := trodVars_none hV
  rw [List.append_nil] at *
  have hst := args_stay hl hb _ _ _ _ hr hA hlt
  have hR : ∀ (b : Nat) (sp : Nat → Bool) (hd : Bool), DataW.TrodAll enc P W' b sp hd f.resultTypes.toList ((Value.bool true).resultList f.resultTypes.size) (s.fn H ds).results [] := by
    intro b sp hd
    rw [hfn, hres]
    exact ⟨[], [], shut_bool hbt true, rfl, rfl⟩
  refine ⟨ds, [], p, [], p, [], by simpa using hW, by simpa using hR _ _ _, ?_, ?_, World.keptBut_mono (fun x hx => ⟨hx, .inr (.inl hx)⟩) (hb.frame (· ∈ p)), fun _ => ⟨?_, [.lit (.bool true)] ++ ds, [], p, ⟨p, [], ?_, ?_, by simp, ?_, fun h => by cases h⟩, fun x hx _ => hx⟩⟩
  · rw [List.append_nil, hfn]; exact hst _ (fun x hx => by simpa using hlt x hx)
  · rw [List.append_nil, hfn, hv]; rfl
  · intro j t r ht hj
    rw [hres] at ht hj
    cases j with
    | zero =>
      simp at ht hj
      subst ht
      obtain rfl : r = .bool true := by simpa [Value.resultList] using hj.symm
      exact okWide_bool_mk hbt true
    | succ j => simp at ht
  · have h1 := hR 0 (fun _ => true) true
    rw [hfn] at h1
    have := trodAll_append (hst (fun _ => true) (fun _ _ => rfl)) h1
    simpa using this
  · rw [hv]; rfl
  · intro b off hp
    rw [hb.frozen (hlt _ hp)]
    exact hz b off hp
end

theorem dcgOwn : ownKnob Tryz.prog.godebug = none := by kernel_rfl
noncomputable def dcgWorld (os : Os) : World := World.laidAll Tryz.prog os Rows.fddomBackRow.laid
set_option maxRecDepth 100000 in
theorem dcgWorld_met (os : Os) (args : Array Value) : laidMetH Tryz.prog Rows.fddomBackRow.laid ((dcgWorld os).forCall (fun _ _ => 0) ⟨#[], args, []⟩).memory := by
  rw [MakeChecks.laidMetH_plain _ _ _ (by kernel_rfl)]
  exact laidMet_laidAll _ (by kernel_rfl) (by kernel_rfl)
set_option maxRecDepth 100000 in
theorem vtabs_laid {W : World} (h : laidMetH Tryz.prog Rows.fddomBackRow.laid W) : VTabs W :=
  utf8Tabs_of_readsT (U8Types.of196 Tryz.laysValid) ⟨by kernel_rfl, by kernel_rfl, by kernel_rfl, by kernel_rfl, by kernel_rfl, by kernel_rfl, by kernel_rfl⟩ (Lib.laidMet.reads h (.tail _ (.head _))) (Lib.laidMet.reads h (.head _))

theorem back_res : Tryz.f4.resultTypes = #[4] := by kernel_rfl
set_option maxRecDepth 1000000 in
theorem back_contract (H : Type) (enc : TypeId × Value → H) (W : World) (base : Nat) (args : Array Value) (ds gs : List (DataW H)) (before : List MemPlace)
    (hval : ∀ (j : Nat) t v, Tryz.f4.params[j]? = some t → args[j]? = some v → Value.okWide Tryz.prog W .any base t v)
    (hW : DataW.Whole enc Tryz.prog Tryz.f4.params.toList Rows.fddomBackSpec.vars false W args.toList ds gs before) (hwt : (DataW.weightsEach Tryz.prog (Tryz.f4.params.toList ++ []) (ds ++ gs)).all (· ≤ reachBytes) = true) (hL : laidMetH Tryz.prog Rows.fddomBackRow.laid W) :
    Calls Tryz.prog 4 args W fun e W' => ∃ v, e = .returned v ∧ Rows.fddomBackSpec.post enc Tryz.prog Tryz.f4 false true false false W args v W' := by
  have hW' := hW
  obtain ⟨p, q, hA0, hV, rfl, hfz, hnd⟩ := hW
  have hA : DataW.TrodAll enc Tryz.prog W 0 (fun _ => true) true Tryz.f4.params.toList args.toList ds p := hA0
  rw [Tryz.params4] at hA hval hwt
  obtain ⟨v0, vs0, d0, ds0, p0, q0, hargs, rfl, rfl, h0, r0⟩ := trodAll_cons hA
  obtain ⟨v1, vs1, d1, ds1, p1, q1, rfl, rfl, rfl, h1, r1⟩ := trodAll_cons r0
  obtain ⟨rfl, rfl, rfl⟩ := trodAll_nil r1
  obtain rfl : args = #[v0, v1] := by cases args; simp_all
  obtain ⟨rfl, rfl⟩ := trodVars_none hV
  obtain ⟨A0, n0, c0, l0, e0, ha0, hz0⟩ := open_Ranges (hval 0 22 v0 rfl rfl) h0
  subst e0
  obtain ⟨g1, A1, n1, c1, l1, e1, ha1, hz1⟩ := open_Int (hval 1 56 v1 rfl rfl) h1
  subst e1
  have hwalk := back_walk (g := g1) ha0 hz0 ha1 (vtabs_laid hL).ok
  refine hwalk.mono fun e W' ⟨he, hb⟩ => ?_
  subst he
  refine ⟨_, rfl, law_end (bt := 4) laidK (fun t ht => ?_) back_res Tryz.underlying4 rfl hW' rfl hb⟩
  rw [Tryz.params4] at ht
  simp at ht
  rcases ht with rfl | rfl
  all_goals exact ⟨by kernel_rfl, of_decide_eq_true (by kernel_rfl)⟩
theorem back_reads (os : Os) {H : Type} (enc : TypeId × Value → H) : ∃ places, DataW.whole enc Tryz.prog ((dcgWorld os).forCall (fun _ _ => 0) ⟨#[], #[.slice none 0 0, .agg #[.bool false, .slice none 0 0]], []⟩).memory Tryz.f4.params.toList Rows.fddomBackSpec.vars false #[Value.slice none 0 0, Value.agg #[.bool false, .slice none 0 0]].toList 8 =
    some ([.nil, .agg [.lit (.bool false), .nil]], [], places) :=
  ⟨[], by kernel_rfl⟩
set_option maxRecDepth 100000 in
theorem back_lifted (os : Os) (started : os.Started) (H : Type) (enc : TypeId × Value → H) (F : Stop.Interp) :
    ReturnsInHanded {} Tryz.checked os 4 .any ((OpenSpec.ofChange Rows.fddomBackSpec).preRow enc Tryz.prog Tryz.f4 Rows.fddomBackRow.domain false Rows.fddomBackRow.laid) (((OpenSpec.ofChange Rows.fddomBackSpec).at F).post enc Tryz.prog Tryz.f4 false true false false) := by
  obtain ⟨places, hx⟩ := back_reads os enc
  refine returnsInHanded_of_row (C := Tryz.checked) (s := OpenSpec.ofChange Rows.fddomBackSpec) dcgOwn started (by kernel_rfl) Tryz.func4
    (witness_row_atRef (enc := enc) (C := Tryz.checked) false (dcgWorld os) #[.slice none 0 0, .agg #[.bool false, .slice none 0 0]] (World.laidAll_os _ _ _) (by kernel_rfl) (by kernel_rfl) (by kernel_rfl)
      (OpenSpec.preRow_of_cond 8 hx (by kernel_rfl) (fun k hk => by cases hk) (by kernel_rfl) (dcgWorld_met os _))) ?_
  intro W base args ds gs before hval hW _ _ hwt hL _ _
  exact back_contract H enc W base args ds gs before hval hW hwt hL

theorem back_said : Rows.FddomBackSaid :=
  OpenClaim.holds_of_cond 4 Tryz.f4 rfl rfl rfl rfl rfl rfl rfl ⟨rfl, rfl, rfl, rfl, rfl⟩ rfl rfl rfl rfl rfl (by kernel_rfl) Tryz.func4 (by kernel_rfl)
    (of_decide_eq_true (by kernel_rfl)) (by unfold Func.isWrapper; first | (rw [if_pos (by decide +kernel)]; kernel_rfl) | (rw [if_neg (by decide +kernel)]; exact ⟨rfl, rfl⟩))
    (fun os started H enc _ F => by rw [OpenClaim.pre_eq_preRow]; exact back_lifted os started H enc F)

theorem back_plain (f : FuncId) (fn : Func) (hf : Tryz.pinned.checked.prog.funcNamed "hornbeam/hornbeamlaw09.FddomBack" = some f) (hfn : Tryz.pinned.checked.prog.funcs[f]? = some fn) :
    true = Tryz.pinned.checked.prog.looks [] ∧ ∀ (j : Nat) t, fn.params[j]? = some t → Tryz.pinned.checked.prog.wantsStandIn t = false := by
  obtain rfl : f = 4 := Option.some.inj ((show Tryz.prog.funcNamed "hornbeam/hornbeamlaw09.FddomBack" = some 4 by kernel_rfl).symm.trans hf) |>.symm
  obtain rfl : fn = Tryz.f4 := (Option.some.inj (Tryz.func4.symm.trans hfn)).symm
  refine ⟨by kernel_rfl, fun j t ht => ?_⟩
  rw [Tryz.params4] at ht
  have hm : t ∈ [22, 56] := by simpa using Array.mem_of_getElem? ht
  have hall : ([22, 56].all fun u => !Tryz.prog.wantsStandIn u) = true := by kernel_rfl
  exact (show Tryz.prog.wantsStandIn t = false by simpa using List.all_eq_true.1 hall t hm)

/-- THE CARD -/
theorem back_card : Rows.FddomBackCardSaid :=
  Claim7.holds_tied_plain_at .later [] _ _ _ _ back_said (fun _ h => by cases h) (by kernel_rfl) (fun _ h => by cases h) fddomBack_row_tie rfl ⟨rfl, rfl⟩ (by kernel_rfl) rfl back_plain (by kernel_rfl)
end Go.Proofs.YtpikjceodmepiaaGreatDoor

