import Derived.Test.YtfdcponamkfcaaaDoorOu
import Derived.ProofKit
import Derived.OpenShut
import Derived.JoinedCond
import Derived.JoinedOf
import Derived.JoinedAt
import Derived.ChangeSame
import Derived.ChangeSlices
import Derived.RowKit3
import Derived.Carry
import Derived.Lib.SmallJoins
import Derived.Deep.DeepHandedRow
namespace Go.Proofs.YtfdcponamkfcaaaDoor
open Go.ChangeShapes Go.WideShapes Go.ChangeAt Go.RowKit Go.Joins Ho
set_option linter.unusedVariables false
set_option linter.unusedSimpArgs false

theorem ownK : ownKnob Tryd.prog.godebug = none := by kernel_rfl
theorem laidK : laidOutB Tryd.prog = true := by kernel_rfl
section
variable {H : Type} {enc : TypeId × Value → H} {P : Program}
/-- what came in reads as it did -/
theorem args_stay (hl : laidOutB P = true) {W W' : World} (hb : Below W.heap.size W W') : ∀ (ts : List TypeId) (vs : List Value) (ds : List (DataW H)) (ps : List MemPlace),
    (∀ t ∈ ts, P.readableRec t = true ∧ t < P.types.size) → DataW.TrodAll enc P W 0 (fun _ => true) true ts vs ds ps → (∀ x ∈ ps, x.block < W.heap.size) →
    ∀ sp : Nat → Bool, (∀ x ∈ ps, sp x.block = true) → DataW.TrodAll enc P W' 0 sp true ts vs ds ps
  | [], vs, ds, ps, _, h, _, _, _ => by
    cases vs <;> cases ds <;> simp [DataW.TrodAll] at h ⊢
    exact h
  | t :: ts, vs, ds, ps, hr, h, hlt, sp, hs => by
    obtain ⟨v, vs', d, ds', p, q, rfl, rfl, rfl, h1, h2⟩ := trodAll_cons h
    have hp : ∀ x ∈ p, x.block < W.heap.size := fun x hx => hlt x (List.mem_append_left _ hx)
    have hq : ∀ x ∈ q, x.block < W.heap.size := fun x hx => hlt x (List.mem_append_right _ hx)
    exact trodAll_cons_mk (WideElems.Trod_stays hl (hr t (by simp)).1 (hr t (by simp)).2 h1 (fun x hx => hb.same (hp x hx)) (fun x hx => hs x (List.mem_append_left _ hx)))
      (args_stay hl hb ts vs' ds' q (fun t ht => hr t (List.mem_cons_of_mem _ ht)) h2 hq sp (fun x hx => hs x (List.mem_append_right _ hx)))

/-- the end of a law: it answers true, and what stood before the call is as it was -/
theorem law_end {f : Func} {s : ChangeSpec} {fresh handsOn again : Bool} {W W' : World} {args : Array Value} {ds gs : List (DataW H)} {before : List MemPlace} {bt : TypeId}
    (hl : laidOutB P = true) (hr : ∀ t ∈ f.params.toList, P.readableRec t = true ∧ t < P.types.size) (hres : f.resultTypes = #[bt]) (hbt : P.underlying bt = some .bool)
    (hv : s.vars = []) (hW : DataW.Whole enc P f.params.toList s.vars false W args.toList ds gs before) (hfn : s.fn H (ds ++ gs) = { results := [.lit (.bool true)], args := ds }) (hb : Below W.heap.size W W') :
    s.post enc P f false fresh handsOn again W args (.bool true) W' := by
  have hlt : ∀ p ∈ before, p.block < W.heap.size := fun p hp => hW.lt p hp
  have hW2 := hW
  obtain ⟨p, q, hA, hV, rfl, hz, _⟩ := hW2
  rw [hv] at hV
  obtain ⟨rfl, rfl⟩ := trodVars_none hV
  rw [List.append_nil] at *
  have hst := args_stay hl hb _ _ _ _ hr hA hlt
  have hR : ∀ (b : Nat) (sp : Nat → Bool) (hd : Bool), DataW.TrodAll enc P W' b sp hd f.resultTypes.toList ((Value.bool true).resultList f.resultTypes.size) (s.fn H ds).results [] := by
    intro b sp hd
    rw [hfn, hres]
    exact ⟨[], [], shut_bool hbt true, rfl, rfl⟩
  refine ⟨ds, [], p, [], p, [], by simpa using hW, by simpa using hR _ _ _, ?_, ?_, World.keptBut_mono (fun x hx => ⟨hx, .inr (.inl hx)⟩) (hb.frame (· ∈ p)), fun _ => ⟨?_, [.lit (.bool true)] ++ ds, [], p, ⟨p, [], ?_, ?_, by simp, ?_, fun h => by cases h⟩, fun x hx _ => hx⟩⟩
  · rw [List.append_nil, hfn]; exact hst _ (fun x hx => by simpa using hlt x hx)
  · rw [List.append_nil, hfn, hv]; rfl
  · intro j t r ht hj
    rw [hres] at ht hj
    cases j with
    | zero =>
      simp at ht hj
      subst ht
      obtain rfl : r = .bool true := by simpa [Value.resultList] using hj.symm
      exact okWide_bool_mk hbt true
    | succ j => simp at ht
  · have h1 := hR 0 (fun _ => true) true
    rw [hfn] at h1
    have := trodAll_append (hst (fun _ => true) (fun _ _ => rfl)) h1
    simpa using this
  · rw [hv]; rfl
  · intro b off hp
    rw [hb.frozen (hlt _ hp)]
    exact hz b off hp
end


theorem cellsOp : Tryd.prog.cellsOf 23 = 3 := by kernel_rfl
set_option maxRecDepth 1000000 in
/-- an argument of the type Op, opened -/
theorem open_Op {H : Type} {enc : TypeId × Value → H} {W : World} {base : Nat} {v : Value} {d : DataW H} {p : List MemPlace} (hval : Value.okWide Tryd.prog W .any base 23 v)
    (h : DataW.Trod enc Tryd.prog W 0 (fun _ => true) true 23 v d p) : ∃ (s : ByteArray) (t q : Int), v = .agg #[.string s, .int .i64 t, .int .i64 q] := by
  obtain ⟨v0, v1, v2, y0, y1, y2, m, rfl, _, _, h0, h1, h2⟩ := open_agg3 (P := Tryd.prog) (w := W) (r := .any) (b0 := base) (t := 23) (v := v) (d := d) (p := p) Tryd.underlying23 (by kernel_rfl) cellsOp hval h
  obtain ⟨s, e0, _⟩ := DataW.trod_string Tryd.underlying9 h0
  obtain ⟨t, e1, _⟩ := DataW.trod_int Tryd.underlying3 h1
  obtain ⟨q, e2, _⟩ := DataW.trod_int Tryd.underlying3 h2
  simp at e0 e1 e2
  subst e0 e1 e2
  exact ⟨s, t, q, rfl⟩
theorem tab_type : (Tryd.prog.globals[0]?).map (·.type) = some 79 := by kernel_rfl
theorem cellsT : Tryd.prog.cellsOf 79 = 256 := by kernel_rfl
theorem cellsB : Tryd.prog.cellsOf 5 = 1 := by kernel_rfl
theorem tab_data : (Rows.laid_strings_asciiSpace : DataW Unit) = Lib.tabData .u8 Lib.asciiSpaceTab := by kernel_rfl
/-- what the row's list gives -/
theorem tab_laid {W : World} (h : laidMetH Tryd.prog Rows.opsTypesRow.laid W) : Tab W := by
  have hr := Lib.laidMet.reads h (n := "strings.asciiSpace") (d := Rows.laid_strings_asciiSpace) (List.Mem.tail _ (List.Mem.head _))
  obtain ⟨g', t', cs, fuel, p, hg', ht', hvar, hd⟩ := hr
  obtain rfl := Option.some.inj (tab_global.symm.trans hg')
  obtain rfl := Option.some.inj (tab_type.symm.trans ht')
  rw [tab_data] at hd
  unfold Tab Lib.TabIs
  rw [hvar, ← Lib.cells_of_tab Tryd.underlying79 Tryd.underlying5 cellsB cellsT hd]
set_option maxRecDepth 100000 in
set_option maxHeartbeats 2000000 in
theorem Types_walk (s : ByteArray) (t p : Int) (word : ByteArray) (kind : Int) {w : World} (hT : Tab w) (h2 : 2 ≤ w.heap.size) :
    Calls Tryd.prog 3 #[.agg #[.string s, .int .i64 t, .int .i64 p], .string word, .int .i64 kind] w (AwakePost w) := by
  have HT := Lib.hid (fun w1 (hb : Below w.heap.size w w1) => hT.below hb h2)
  have HA := Lib.hid (fun w1 (hb : Below w.heap.size w w1) => awake_any (hT.below hb h2) (Nat.le_trans h2 hb.size))
  obtain ⟨a, ha⟩ : ∃ a, (sides t p).1 = a := ⟨_, rfl⟩
  obtain ⟨b, hb⟩ : ∃ a, (sides t p).2 = a := ⟨_, rfl⟩
  have HS1 := Lib.hid (fun w1 => show Calls Tryd.prog 9 #[.agg #[.string s, .int .i64 t, .int .i64 p]] w1 (fun e w' => e = .returned (.tuple #[.int .i64 a, .int .i64 b]) ∧ Below w1.heap.size w1 w') from by have h := Sides_any s t p w1; unfold SidesPost at h; rw [ha, hb] at h; exact h)
  have HS2 := Lib.hid (fun w1 => show Calls Tryd.prog 10 #[.agg #[.string s, .int .i64 t, .int .i64 p]] w1 (fun e w' => e = .returned (.tuple #[.int .i64 a, .int .i64 b]) ∧ Below w1.heap.size w1 w') from by have h := rSides_any s t p w1; unfold SidesPost at h; rw [ha, hb] at h; exact h)
  obtain ⟨x, hx⟩ : ∃ x, ix typeWords word.data.toList + 1 = x := ⟨_, rfl⟩
  have HY1 := Lib.hid (fun w1 (hb : Below w.heap.size w w1) => show Calls Tryd.prog 11 #[.string word] w1 (fun e w' => e = .returned (.int .i64 x) ∧ Below w1.heap.size w1 w') from by rw [← hx]; exact Type_any word (HT.out w1 hb))
  have HY2 := Lib.hid (fun w1 => show Calls Tryd.prog 12 #[.string word] w1 (fun e w' => e = .returned (.int .i64 x) ∧ Below w1.heap.size w1 w') from by rw [← hx]; exact rType_any word w1)
  obtain ⟨y, hy⟩ : ∃ y : ByteArray, (⟨(wordOf kind).toArray⟩ : ByteArray) = y := ⟨_, rfl⟩
  have HW1 := Lib.hid (fun w1 (hb : Below w.heap.size w w1) => show Calls Tryd.prog 13 #[.int .i64 kind] w1 (fun e w' => e = .returned (.string y) ∧ Below w1.heap.size w1 w') from by rw [← hy]; exact Word_any kind (HT.out w1 hb))
  have HW2 := Lib.hid (fun w1 => show Calls Tryd.prog 14 #[.int .i64 kind] w1 (fun e w' => e = .returned (.string y) ∧ Below w1.heap.size w1 w') from by rw [← hy]; exact rWord_any kind w1)
  have hyy : (y == y) = true := str_beq2 y y (by simp)
  have hyl : (y.toList == y.toList) = true := by simp
  have hb0 : Below w.heap.size w (w.alloc (.cells #[.string s, .int .i64 t, .int .i64 p] 23)) := (Below.refl _ _).alloc (Nat.le_refl _) _
  have HB0 := Lib.hid hb0
  have HC0 := Lib.hid (heap_alloc_new w (.cells #[.string s, .int .i64 t, .int .i64 p] 23))
  have hz0 : w.heap.size < (w.alloc (.cells #[.string s, .int .i64 t, .int .i64 p] 23)).heap.size := by simp
  clear hT h2 ha hb hx hy hb0
  go_enter Tryd.func3, Tryd.ntmps3
  go_wp2_with fail
  (with_reducible refine (HA.out _ HB0.out).mono ?_)
  rintro ex w1 ⟨rfl, hb1⟩
  have HC1 := Lib.hid ((hb1.block _ hz0).trans HC0.out)
  have HB1 := Lib.hid (HB0.out.trans (hb1.mono HB0.out.size))
  have hz1 := hb1.size
  clear hb1
  have q0 : w1.cell? ⟨w.heap.size, 0, none⟩ = some (.string s) := by rw [cell_of_row w1 _ 0 _ _ (0, 0) HC1.out]; rfl
  have q1 : w1.cell? ⟨w.heap.size, 1, none⟩ = some (.int .i64 t) := by rw [cell_of_row w1 _ 1 _ _ (0, 0) HC1.out]; rfl
  have q2 : w1.cell? ⟨w.heap.size, 2, none⟩ = some (.int .i64 p) := by rw [cell_of_row w1 _ 2 _ _ (0, 0) HC1.out]; rfl
  go_wp2_with fail
  (with_reducible refine (HS1.out _).mono ?_)
  rintro ex w2 ⟨rfl, hb2⟩
  have HC2 := Lib.hid ((hb2.block _ (by omega)).trans HC1.out)
  have HB2 := Lib.hid (HB1.out.trans (hb2.mono HB1.out.size))
  clear hb2 q0 q1 q2
  have q0 : w2.cell? ⟨w.heap.size, 0, none⟩ = some (.string s) := by rw [cell_of_row w2 _ 0 _ _ (0, 0) HC2.out]; rfl
  have q1 : w2.cell? ⟨w.heap.size, 1, none⟩ = some (.int .i64 t) := by rw [cell_of_row w2 _ 1 _ _ (0, 0) HC2.out]; rfl
  have q2 : w2.cell? ⟨w.heap.size, 2, none⟩ = some (.int .i64 p) := by rw [cell_of_row w2 _ 2 _ _ (0, 0) HC2.out]; rfl
  go_wp2_with fail
  (with_reducible refine (HS2.out _).mono ?_)
  rintro ex w3 ⟨rfl, hb3⟩
  have HB3 := Lib.hid (HB2.out.trans (hb3.mono HB2.out.size))
  clear hb3 q0 q1 q2
  go_wp2_with fail
  (with_reducible refine (HY1.out _ HB3.out).mono ?_)
  rintro ex w4 ⟨rfl, hb4⟩
  have HB4 := Lib.hid (HB3.out.trans (hb4.mono HB3.out.size))
  clear hb4
  go_wp2_with fail
  (with_reducible refine (HY2.out _).mono ?_)
  rintro ex w5 ⟨rfl, hb5⟩
  have HB5 := Lib.hid (HB4.out.trans (hb5.mono HB4.out.size))
  clear hb5
  go_wp2_with fail
  (with_reducible refine (HW1.out _ HB5.out).mono ?_)
  rintro ex w6 ⟨rfl, hb6⟩
  have HB6 := Lib.hid (HB5.out.trans (hb6.mono HB5.out.size))
  clear hb6
  go_wp2_with fail
  (with_reducible refine (HW2.out _).mono ?_)
  rintro ex w7 ⟨rfl, hb7⟩
  have HB7 := Lib.hid (HB6.out.trans (hb7.mono HB6.out.size))
  clear hb7
  go_wp2
  go_ret
  exact ⟨rfl, HB7.out⟩
end Go.Proofs.YtfdcponamkfcaaaDoor
