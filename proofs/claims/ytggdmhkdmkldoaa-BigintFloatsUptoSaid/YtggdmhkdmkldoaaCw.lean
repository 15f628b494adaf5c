import Derived.Test.YtggdmhkdmkldoaaCi
import Derived.Laws.AppendOwnNone
import Derived.ProofKit
import Derived.OpenShut
import Derived.JoinedCond
import Derived.JoinedOf
import Derived.JoinedAt
import Derived.ChangeSame
import Derived.ChangeSlices
import Derived.RowKit3
import Derived.Carry
import Derived.Lib.SmallJoins
import Derived.Deep.LoopGhost
import Derived.Maps.AppendAt
import Derived.IntWalk
namespace Go.Proofs.Ytggdmhkdmkldoaa
open Go.RowKit Hb

def FewPost (w : World) (neg : Bool) (l : List Nat) (m : Nat) (e : Ending) (w' : World) : Prop :=
  ∃ A c, e = .returned (.agg #[.bool neg, .slice A m c]) ∧ OwnU w' w.heap.size A m c (u32s (l.take m)) ∧ Below w.heap.size w w'
/-- an append of what came in onto a row of the call's own -/
theorem wp_append_rd {o : Oper} {a : Act} {K : Act → World → Prop} {Q : Exit → Act → World → Prop} {w : World} (s x : Operand)
    (ho : o.op = .call { callee := .builtin .append, args := #[s, x], argTypes := #[22, 22] })
    {base B : Nat} {A A0 : Option Addr} {n0 c0 m c : Nat} {l0 l : List Nat} (hs : a.eval s = .slice A0 n0 c0) (hown : OwnU w base A0 n0 c0 (u32s l0)) (hx : a.eval x = .slice A m c) (hA : A = none → c = 0) (hrd : SlU w B A m c l)
    (hm : n0 + m ≤ 67108864) (hbase : base ≤ w.heap.size)
    (h : ∀ A' c' w', OwnU w' base A' (n0 + m) c' (u32s (l0 ++ l)) → Below base w w' → K (a.put o.dst (.slice A' (n0 + m) c')) w') : o.wp Try.prog a w K Q := by
  obtain ⟨i0, hi, hz0, hz1, hz2⟩ := info_parts infoU
  cases A with
  | none =>
    have hm0 : m = 0 := by
      rcases Nat.eq_zero_or_pos m with h0 | h0
      · exact h0
      · obtain ⟨b, o, h1, _⟩ := hrd.at_ h0; cases h1
    have hc0 := hA rfl
    subst hm0; subst hc0
    have hl : l = [] := List.length_eq_zero_iff.1 hrd.len
    subst hl
    have hrun := run_append_owned_none (P := Try.prog) (w := w) base 22 o.type 48 i0 1 Try.underlying22 hi _ n0 (u32s l0) hown
    unfold Oper.wp
    simp [execOp, ho, resolve, invoke, builtin, hs, hx, hrun, Result.andThen]
    exact h A0 c0 w (by rw [List.append_nil]; exact hown) (Below.refl _ _)
  | some ad =>
    refine wp_append_own w s x 22 ho base 48 i0 (.int .u32 0) 1 4 Try.underlying22 hi hz0 hz1 hz2 rfl (by decide) _ n0 (u32s l0) hs hown ad m c (u32s l) hx (by rw [u32s_length, hrd.len]; simp) ?_ (u32s_one l) (by simp [maxLen]; omega) (by omega) hbase ?_
    · intro j u hj
      have hj2 : j < m := by
        rw [← hrd.len, ← u32s_length l]
        exact (List.getElem?_eq_some_iff.1 hj).1
      obtain ⟨b, o', h1, _, hc⟩ := hrd.at_ (by omega)
      obtain rfl := Option.some.inj h1
      rw [addr_add, hc j hj2, ← u32s_get (by rw [hrd.len]; exact hj2), hj]
    · intro v' w' hown' hg hv
      have hf : ∃ A' c', v' = .slice A' (n0 + m) c' := by
        rcases hown'.2 with ⟨h1, h2⟩ | ⟨g', cap, cur, h1, _⟩
        · exact ⟨none, 0, by rw [h1, h2]⟩
        · exact ⟨_, _, h1⟩
      obtain ⟨A', c', rfl⟩ := hf
      refine h A' c' w' (by have h3 := hown'; rw [u32s_append] at h3; exact h3) ⟨hg.os, hg.tape, hg.output, hg.size, fun j hj => hg.block j (by omega) ?_⟩
      rcases Own.form hown with ⟨rfl, _⟩ | ⟨g', rfl, h4, _⟩
      · simp [Value.ownBlock]
      · simp [Value.ownBlock]; omega
set_option maxRecDepth 100000 in
set_option maxHeartbeats 2000000 in
theorem few_any (neg : Bool) {B : Nat} {A : Option Addr} {l : List Nat} {n c : Nat} {w : World} (hs : SlU w B A n c l) (hA : A = none → c = 0) (hB : B ≤ w.heap.size) (k : Nat) (hk : k ≤ 1000) :
    Calls Try.prog 31 #[.agg #[.bool neg, .slice A n c], .int .i64 (k : Int)] w (FewPost w neg l (min k n)) := by
  have HB := Lib.hid (Below.refl w.heap.size w)
  have hcap := hs.cap
  have hmx := hs.max
  unfold maxLen at hmx
  obtain ⟨m, hm⟩ : ∃ m, min k n = m := ⟨_, rfl⟩
  rw [hm]
  have HT := Lib.hid (fun w1 (hb : Below w.heap.size w w1) => And.intro ((hs.take (k := m) (by omega)).below (C := w.heap.size) hb hB) (Nat.le_trans hB hb.size))
  have HA := Lib.hid hA
  have hk0 : (0 : Int) ≤ (k : Int) := by omega
  have hmn : (m : Int) ≤ (n : Int) := by omega
  have hm0 : (0 : Int) ≤ (m : Int) := by omega
  have hmc : (m : Int) ≤ (c : Int) := by omega
  have hm9 : m ≤ 1000 := by omega
  have hmi : min (k : Int) (n : Int) = (m : Int) := by omega
  clear hs hA hm
  go_enter Try.func31, Try.ntmps31
  go_wp2_with fail
  refine wp_region_wait (fun w' => w'.cell? ⟨w.heap.size, 0, none⟩ = some (.bool neg) ∧ w'.cell? ⟨w.heap.size, 1, none⟩ = some (.slice A n c)) 13 (by kernel_rfl) ?_
  have hb0 := (Bx.new w (.bool neg) (.slice A n c)).alloc (.cells #[.bool false, .slice none 0 0] 24)
  have hb1 : Bx ((w.alloc (.cells #[.bool neg, .slice A n c] 24)).alloc (.cells #[.bool false, .slice none 0 0] 24)) (w.heap.size + 1) (.bool false) (.slice none 0 0) := by have := Bx.new (w.alloc (.cells #[.bool neg, .slice A n c] 24)) (.bool false) (.slice none 0 0); simpa only [World.size_alloc] using this
  have HB2 := Lib.hid ((HB.out.alloc (Nat.le_refl _) (.cells #[.bool neg, .slice A n c] 24)).alloc (by simp) (.cells #[.bool false, .slice none 0 0] 24))
  have hz2 : ((w.alloc (.cells #[.bool neg, .slice A n c] 24)).alloc (.cells #[.bool false, .slice none 0 0] 24)).heap.size = w.heap.size + 1 + 1 := by simp
  generalize ((w.alloc (.cells #[.bool neg, .slice A n c] 24)).alloc (.cells #[.bool false, .slice none 0 0] 24)) = w2 at *
  obtain ⟨a0, a1, _, _⟩ := hb0.facts
  have HX0 := Lib.hid hb0
  have HX1 := Lib.hid hb1
  clear hb0 hb1
  refine wpAnyW_take 13 (i := 0) (v := .pointer (some ⟨w.heap.size, 0, none⟩)) rfl (by kernel_rfl) (by kernel_rfl) (by kernel_rfl) (by kernel_rfl) (fun _ _ _ h => h) (Or.inl ⟨by rfl, fun w5 hSw => by go_simp⟩) ⟨a0, a1⟩ ?_
  refine wpAnyW_take 13 (i := 1) (v := .bool neg) rfl (by kernel_rfl) (by kernel_rfl) (by kernel_rfl) (by kernel_rfl) (fun _ _ _ h => h) (Or.inl ⟨by rfl, fun w5 hSw => by go_simp⟩) ⟨a0, a1⟩ ?_
  refine wpAnyW_take 13 (i := 3) (v := .pointer (some ⟨w.heap.size, 1, none⟩)) rfl (by kernel_rfl) (by kernel_rfl) (by kernel_rfl) (by kernel_rfl) (fun _ _ _ h => h) (Or.inl ⟨by rfl, fun w5 hSw => by go_simp⟩) ⟨a0, a1⟩ ?_
  refine wpAnyW_take 13 (i := 4) (v := .slice A n c) rfl (by kernel_rfl) (by kernel_rfl) (by kernel_rfl) (by kernel_rfl) (fun _ _ _ h => h) (Or.inl ⟨by rfl, fun w5 hSw => by go_simp⟩) ⟨a0, a1⟩ ?_
  refine wpAnyW_take 13 (i := 5) (v := .int .i64 (k : Int)) rfl (by kernel_rfl) (by kernel_rfl) (by kernel_rfl) (by kernel_rfl) (fun _ _ _ h => h) (Or.inl ⟨by rfl, fun w5 hSw => by go_simp⟩) ⟨a0, a1⟩ ?_
  refine wpAnyW_take 13 (i := 6) (v := .pointer (some ⟨w.heap.size, 1, none⟩)) rfl (by kernel_rfl) (by kernel_rfl) (by kernel_rfl) (by kernel_rfl) (fun _ _ _ h => h) (Or.inl ⟨by rfl, fun w5 hSw => by go_simp⟩) ⟨a0, a1⟩ ?_
  refine wpAnyW_take 13 (i := 7) (v := .slice A n c) rfl (by kernel_rfl) (by kernel_rfl) (by kernel_rfl) (by kernel_rfl) (fun _ _ _ h => h) (Or.inl ⟨by rfl, fun w5 hSw => by go_simp⟩) ⟨a0, a1⟩ ?_
  refine wpAnyW_take 13 (i := 8) (v := .int .i64 (n : Int)) rfl (by kernel_rfl) (by kernel_rfl) (by kernel_rfl) (by kernel_rfl) (fun _ _ _ h => h) (Or.inl ⟨by rfl, fun w5 hSw => by go_simp⟩) ⟨a0, a1⟩ ?_
  refine wpAnyW_take 13 (i := 9) (v := .int .i64 (m : Int)) rfl (by kernel_rfl) (by kernel_rfl) (by kernel_rfl) (by kernel_rfl) (fun _ _ _ h => h) (Or.inl ⟨by rfl, fun w5 hSw => by go_simp⟩) ⟨a0, a1⟩ ?_
  refine wpAnyW_take 13 (i := 10) (v := .slice A m c) rfl (by kernel_rfl) (by kernel_rfl) (by kernel_rfl) (by kernel_rfl) (fun _ _ _ h => h) (Or.inl ⟨by rfl, fun w5 hSw => by go_simp⟩) ⟨a0, a1⟩ ?_
  refine wpAnyW_one (i := 2) (by kernel_rfl) rfl (fun K hK => ?_)
  go_simp
  have S2 := (HX0.out.alloc (.cells #[] 48)).drew.facts
  refine hK.out _ _ (fun _ => ⟨S2.1, S2.2.1⟩) ?_
  refine wpAnyW_one (i := 11) (by kernel_rfl) rfl (fun K hK => ?_)
  rw [if_pos (by rfl)]
  have ho0 : OwnU (w2.alloc (.cells #[] 48)) w2.heap.size (some ⟨w2.heap.size, 0, none⟩) 0 0 (u32s []) := Own.of_block (xs := []) (by exact heap_alloc_new w2 _) (Nat.le_refl _) (by simp [maxLen])
  have HB3 := (HB2.out.alloc (by omega) (.cells #[] 48)).drew
  refine wp_append_rd (base := w2.heap.size) (l0 := []) (l := l.take m) (A0 := some ⟨w2.heap.size, 0, none⟩) (n0 := 0) (c0 := 0) _ _ (by rfl) (by rw [hz2]; rfl) ho0 (by rfl) HA.out (HT.out _ HB3).1 (by first | omega | (simp; done) | (simp; omega)) (by first | omega | (simp; done) | (simp; omega)) ?_
  intro A' c' w4 ho4 hb4
  rw [Nat.zero_add] at ho4 ⊢
  have K24 : Below w2.heap.size w2 w4 := ((Below.refl w2.heap.size w2).alloc (Nat.le_refl _) (.cells #[] 48)).drew.trans hb4
  have hl0 := HX0.out.lt
  have hl1 := HX1.out.lt
  have S4 := (HX0.out.below K24 hl0).facts
  have T4 := (HX1.out.below K24 hl1).facts
  have HB4 := Lib.hid (HB2.out.trans (K24.mono (B' := w.heap.size) (by omega)))
  have HO4 := Lib.hid (show OwnU w4 w2.heap.size A' m c' (u32s (l.take m)) from ho4)
  clear S2 hb4 K24 HB3 ho0 a0 a1 ho4
  refine hK.out _ _ (fun _ => ⟨S4.1, S4.2.1⟩) ?_
  refine wpAnyW_one (i := 12) (by kernel_rfl) rfl (fun K hK => ?_)
  go_simp
  refine hK.out _ _ (fun _ => ⟨S4.1, S4.2.1⟩) ?_
  refine wpAnyW_one (i := 13) (by kernel_rfl) rfl (fun K hK => ?_)
  obtain ⟨t0, t1, t2, t3⟩ := T4
  clear S4
  go_simp
  refine hK.out _ _ (fun h => absurd h (by simp)) ?_
  refine wpAnyW_done (by kernel_rfl) ?_ _
  go_wp2
  exact bodyPost_ret (v := .agg #[.bool neg, .slice A' m c']) (by simp [results, Try.results31, go_sem, t0, t1]) rfl
    ⟨A', c', rfl, Own.mono (Own.farB (Own.farB HO4.out (by first | omega | (simp; done) | (simp; omega)) _) (by first | omega | (simp; done) | (simp; omega)) _) (by first | omega | (simp; done) | (simp; omega)), (HB4.out.setCell (by first | omega | (simp; done) | (simp; omega)) _).setCell (by first | omega | (simp; done) | (simp; omega)) _⟩
end Go.Proofs.Ytggdmhkdmkldoaa

namespace Go.Proofs.Ytggdmhkdmkldoaa
open Go.RowKit Hb

theorem cmpZ_zero {x y : Int} : cmpZ x y = 0 ↔ x = y := by unfold cmpZ; split <;> (try split) <;> omega
def SamePost (b : Bool) (w : World) (e : Ending) (w' : World) : Prop := e = .returned (.bool b) ∧ Below w.heap.size w w'
set_option maxHeartbeats 1000000 in
theorem same_any (na nb : Bool) {B B' : Nat} {A A' : Option Addr} {l m : List Nat} {n c n' c' : Nat} {w : World} (hs : SlU w B A n c l) (ht : SlU w B' A' n' c' m) (hB : B ≤ w.heap.size) (hB' : B' ≤ w.heap.size) (e f : Int) :
    Calls Try.prog 48 #[.agg #[.bool na, .slice A n c], .int .i64 e, .agg #[.bool nb, .slice A' n' c'], .int .i64 f] w (SamePost (decide (e = f) && decide (ival na l = ival nb m)) w) := by
  have HC := Lib.hid (fun w1 (hb : Below w.heap.size w w1) => Cmp_any na nb (hs.below (C := w.heap.size) hb hB) (ht.below (C := w.heap.size) hb hB') (Nat.le_trans hB hb.size) (Nat.le_trans hB' hb.size))
  have HB := Lib.hid (Below.refl w.heap.size w)
  have hz := cmpZ_zero (x := ival na l) (y := ival nb m)
  clear hs ht hB hB'
  by_cases hef : e = f
  · have hd : (e == f) = true := by simp [hef]
    have HR := Lib.hid (show (decide (e = f) && decide (ival na l = ival nb m)) = decide (cmpZ (ival na l) (ival nb m) = 0) by rw [decide_eq_true hef, Bool.true_and]; exact decide_eq_decide.2 hz.symm)
    rw [HR.out]
    generalize cmpZ (ival na l) (ival nb m) = cz at *
    generalize hq : decide (cz = 0) = q at *
    have hq2 : (cz == 0) = q := by rw [← hq]; rfl
    clear hz hef HR hq
    go_enter Try.func48, Try.ntmps48
    go_wp2_with fail
    refine (HC.out _ ((HB.out.alloc (Nat.le_refl _) _).alloc (by simp) _)).mono ?_
    rintro ex w3 ⟨rfl, hb3⟩
    go_wp2
    go_ret
    exact ⟨rfl, ((HB.out.alloc (Nat.le_refl _) _).alloc (by simp) _).trans (hb3.mono (by simp; omega))⟩
  · have hd : (e == f) = false := beq_eq_false_iff_ne.2 hef
    have HR := Lib.hid (show (decide (e = f) && decide (ival na l = ival nb m)) = false by rw [decide_eq_false hef, Bool.false_and])
    rw [HR.out]
    clear hz hef HR
    go_enter Try.func48, Try.ntmps48
    go_wp2
    go_ret
    exact ⟨rfl, ((HB.out.alloc (Nat.le_refl _) _).alloc (by simp) _)⟩
end Go.Proofs.Ytggdmhkdmkldoaa

namespace Go.Proofs.Ytggdmhkdmkldoaa
open Go.ChangeShapes Go.WideShapes Go.ChangeAt Go.RowKit Go.Joins Hb

theorem ownK : ownKnob Try.prog.godebug = none := by kernel_rfl
theorem laidK : laidOutB Try.prog = true := by kernel_rfl
theorem cellsU : Try.prog.cellsOf 48 = 1 := by kernel_rfl
theorem cellsInt : Try.prog.cellsOf 24 = 2 := by kernel_rfl

section
variable {H : Type} {enc : TypeId × Value → H} {P : Program}
/-- what came in reads as it did -/
theorem args_stay (hl : laidOutB P = true) {W W' : World} (hb : Below W.heap.size W W') : ∀ (ts : List TypeId) (vs : List Value) (ds : List (DataW H)) (ps : List MemPlace),
    (∀ t ∈ ts, P.readableRec t = true ∧ t < P.types.size) → DataW.TrodAll enc P W 0 (fun _ => true) true ts vs ds ps → (∀ x ∈ ps, x.block < W.heap.size) →
    ∀ sp : Nat → Bool, (∀ x ∈ ps, sp x.block = true) → DataW.TrodAll enc P W' 0 sp true ts vs ds ps
  | [], vs, ds, ps, _, h, _, _, _ => by
    cases vs <;> cases ds <;> simp [DataW.TrodAll] at h ⊢
    exact h
  | t :: ts, vs, ds, ps, hr, h, hlt, sp, hs => by
    obtain ⟨v, vs', d, ds', p, q, rfl, rfl, rfl, h1, h2⟩ := trodAll_cons h
    have hp : ∀ x ∈ p, x.block < W.heap.size := fun x hx => hlt x (List.mem_append_left _ hx)
    have hq : ∀ x ∈ q, x.block < W.heap.size := fun x hx => hlt x (List.mem_append_right _ hx)
    exact trodAll_cons_mk (WideElems.Trod_stays hl (hr t (by simp)).1 (hr t (by simp)).2 h1 (fun x hx => hb.same (hp x hx)) (fun x hx => hs x (List.mem_append_left _ hx)))
      (args_stay hl hb ts vs' ds' q (fun t ht => hr t (List.mem_cons_of_mem _ ht)) h2 hq sp (fun x hx => hs x (List.mem_append_right _ hx)))

/-- the end of a law: it answers true, and what stood before the call is as it was -/
theorem law_end {f : Func} {s : ChangeSpec} {fresh handsOn again : Bool} {W W' : World} {args : Array Value} {ds gs : List (DataW H)} {before : List MemPlace} {bt : TypeId}
    (hl : laidOutB P = true) (hr : ∀ t ∈ f.params.toList, P.readableRec t = true ∧ t < P.types.size) (hres : f.resultTypes = #[bt]) (hbt : P.underlying bt = some .bool)
    (hv : s.vars = []) (hW : DataW.Whole enc P f.params.toList s.vars false W args.toList ds gs before) (hfn : s.fn H (ds ++ gs) = { results := [.lit (.bool true)], args := ds }) (hb : Below W.heap.size W W') :
    s.post enc P f false fresh handsOn again W args (.bool true) W' := by
  have hlt : ∀ p ∈ before, p.block < W.heap.size := fun p hp => hW.lt p hp
  have hW2 := hW
  obtain ⟨p, q, hA, hV, rfl, hz, _⟩ := hW2
  rw [hv] at hV
  obtain ⟨rfl, rfl⟩ := trodVars_none hV
  rw [List.append_nil] at *
  have hst := args_stay hl hb _ _ _ _ hr hA hlt
  have hR : ∀ (b : Nat) (sp : Nat → Bool) (hd : Bool), DataW.TrodAll enc P W' b sp hd f.resultTypes.toList ((Value.bool true).resultList f.resultTypes.size) (s.fn H ds).results [] := by
    intro b sp hd
    rw [hfn, hres]
    exact ⟨[], [], shut_bool hbt true, rfl, rfl⟩
  refine ⟨ds, [], p, [], p, [], by simpa using hW, by simpa using hR _ _ _, ?_, ?_, World.keptBut_mono (fun x hx => ⟨hx, .inr (.inl hx)⟩) (hb.frame (· ∈ p)), fun _ => ⟨?_, [.lit (.bool true)] ++ ds, [], p, ⟨p, [], ?_, ?_, by simp, ?_, fun h => by cases h⟩, fun x hx _ => hx⟩⟩
  · rw [List.append_nil, hfn]; exact hst _ (fun x hx => by simpa using hlt x hx)
  · rw [List.append_nil, hfn, hv]; rfl
  · intro j t r ht hj
    rw [hres] at ht hj
    cases j with
    | zero =>
      simp at ht hj
      subst ht
      obtain rfl : r = .bool true := by simpa [Value.resultList] using hj.symm
      exact okWide_bool_mk hbt true
    | succ j => simp at ht
  · have h1 := hR 0 (fun _ => true) true
    rw [hfn] at h1
    have := trodAll_append (hst (fun _ => true) (fun _ _ => rfl)) h1
    simpa using this
  · rw [hv]; rfl
  · intro b off hp
    rw [hb.frozen (hlt _ hp)]
    exact hz b off hp
end

set_option maxRecDepth 100000 in
/-- an argument of the type Int, opened -/
theorem open_Int {H : Type} {enc : TypeId × Value → H} {W : World} {base : Nat} {v : Value} {d : DataW H} {p : List MemPlace} (hval : Value.okWide Try.prog W .any base 24 v)
    (h : DataW.Trod enc Try.prog W 0 (fun _ => true) true 24 v d p) : ∃ (neg : Bool) (A : Option Addr) (n c : Nat) (l : List Nat), v = .agg #[.bool neg, .slice A n c] ∧ SlU W W.heap.size A n c l ∧ (A = none → c = 0) := by
  obtain ⟨v0, v1, y0, y1, m, rfl, _, _, h0, h1⟩ := open_agg2 Try.underlying24 (by kernel_rfl) cellsInt hval h
  obtain ⟨neg, e0, _⟩ := DataW.trod_bool Try.underlying4 h0
  simp at e0
  subst e0
  rcases open_ints Try.underlying22 Try.underlying48 cellsU h1 with ⟨e1, _⟩ | ⟨a, n, c, zs, e1, _, hnc, hcm, hz, _, hcell, hwf⟩
  · simp at e1
    subst e1
    exact ⟨neg, none, 0, 0, [], rfl, SlU.nil _ _ _ _ (by simp [maxLen]), fun _ => rfl⟩
  · simp at e1
    subst e1
    simp only [if_true] at hz
    have hw : ∀ i, i < c → 0 ≤ zs.getD i 0 ∧ zs.getD i 0 < 4294967296 := by
      intro i hi
      have hm : zs.getD i 0 ∈ zs := by
        rw [List.getD_eq_getElem?_getD, List.getElem?_eq_getElem (by omega)]
        exact List.getElem_mem _
      have := hwf _ hm
      clear hm
      generalize zs.getD i 0 = zz at *
      simp [Lit.wf, IntKind.min, IntKind.max, IntKind.signed, IntKind.bits] at this
      omega
    refine ⟨neg, some a, n, c, (zs.take n).map Int.toNat, rfl, ⟨by simp; omega, hnc, hcm, ?_, ?_⟩, fun h => by cases h⟩
    · intro x hx
      obtain ⟨z, hz1, rfl⟩ := List.mem_map.1 hx
      obtain ⟨i, hi, rfl⟩ := List.getElem_of_mem hz1
      rw [List.length_take] at hi
      have h5 := hw i (by omega)
      have e : zs.getD i 0 = zs[i]'(by omega) := by rw [List.getD_eq_getElem?_getD, List.getElem?_eq_getElem (by omega)]; rfl
      rw [List.getElem_take, ← e]
      show (zs.getD i 0).toNat < 4294967296
      omega
    · intro hne
      have hn : 0 < n := by
        rcases Nat.eq_zero_or_pos n with h | h
        · exfalso; apply hne; subst h; simp [u32s]
        · exact h
      have g0 := hcell 0 (by omega)
      obtain ⟨b, off, spot⟩ := a
      have hspot : spot = none := by simpa [Addr.add] using World.cell?_spot g0
      subst hspot
      refine ⟨b, off, rfl, ?_, fun i u hu => ?_⟩
      · have := World.block_lt_of_cell? _ _ g0
        simpa [Addr.add] using this
      · have hi : i < n := by
          have := (List.getElem?_eq_some_iff.1 hu).1
          rw [u32s_length, List.length_map, List.length_take] at this
          omega
        have h2 := hcell i (by omega)
        rw [addr_add] at h2
        rw [h2, ← hu, u32s_get (by simp; omega)]
        congr 2
        have h3 := hw i (by omega)
        have e : zs.getD i 0 = zs[i]'(by omega) := by rw [List.getD_eq_getElem?_getD, List.getElem?_eq_getElem (by omega)]; rfl
        have e2 : ((zs.take n).map Int.toNat).getD i 0 = (zs[i]'(by omega)).toNat := by
          rw [List.getD_eq_getElem?_getD, List.getElem?_map, List.getElem?_take_of_lt hi, List.getElem?_eq_getElem (by omega)]; rfl
        rw [e2, e]
        rw [e] at h3
        omega
end Go.Proofs.Ytggdmhkdmkldoaa

namespace Go.Proofs.Ytggdmhkdmkldoaa
open Go.RowKit Hb

/-! ### a law's variables: each a block of two cells that reads as an integer -/
structure VE where
  g : Nat
  neg : Bool
  A : Option Addr
  n : Nat
  c : Nat
  l : List Nat
/-- the variables vs of a call that began at w0 -/
def Env (w0 w : World) (vs : List VE) : Prop :=
  Below w0.heap.size w0 w ∧ (∀ v ∈ vs, w0.heap.size ≤ v.g ∧ Bx w v.g (.bool v.neg) (.slice v.A v.n v.c) ∧ SlU w w.heap.size v.A v.n v.c v.l ∧ (v.l ≠ [] → ∀ u ∈ vs, ∀ b o, v.A = some ⟨b, o, none⟩ → b ≠ u.g)) ∧ (vs.map VE.g).Nodup
section
variable {w0 w w' : World} {vs : List VE} {v : VE}
theorem Env.b (h : Env w0 w vs) : Below w0.heap.size w0 w := h.1
theorem Env.x (h : Env w0 w vs) (hv : v ∈ vs) : Bx w v.g (.bool v.neg) (.slice v.A v.n v.c) := (h.2.1 v hv).2.1
theorem Env.s (h : Env w0 w vs) (hv : v ∈ vs) : SlU w w.heap.size v.A v.n v.c v.l := (h.2.1 v hv).2.2.1
theorem SlU.to {w w' : World} {B n c : Nat} {A : Option Addr} {l : List Nat} (h : SlU w B A n c l) (hb : Below w.heap.size w w') (hB : B ≤ w.heap.size) : SlU w' w'.heap.size A n c l :=
  (h.below hb hB).mono (Nat.le_trans hB hb.size)
theorem Env.below (h : Env w0 w vs) (hb : Below w.heap.size w w') : Env w0 w' vs :=
  ⟨h.1.trans (hb.mono h.1.size), fun v hv => ⟨(h.2.1 v hv).1, (h.x hv).below hb (h.x hv).lt, SlU.to (h.s hv) hb (Nat.le_refl _), (h.2.1 v hv).2.2.2⟩, h.2.2⟩
theorem Env.nil (w : World) : Env w w [] := ⟨Below.refl _ _, fun v hv => (by cases hv), by simp⟩
theorem SlU.far {w : World} {B n c : Nat} {A : Option Addr} {l : List Nat} (h : SlU w B A n c l) {p : Addr} (hp : l ≠ [] → ∀ b o, A = some ⟨b, o, none⟩ → b ≠ p.block) (u : Value) : SlU (w.setCell p u) B A n c l :=
  ⟨h.len, h.cap, h.max, h.dig, fun hx => by
    obtain ⟨b, o, hA, hlt, hc⟩ := h.rd hx
    refine ⟨b, o, hA, hlt, fun i v hi => ?_⟩
    rw [← hc i v hi]
    exact World.cell?_of_block (Below.heap_setCell w p u b (hp (fun e => hx (by rw [e]; rfl)) b o hA))⟩
/-- a new variable, what it holds being older than it -/
theorem Env.push (h : Env w0 w vs) {neg : Bool} {A : Option Addr} {n c : Nat} {l : List Nat} (hs : SlU w w.heap.size A n c l) (hA : l ≠ [] → ∀ u ∈ vs, ∀ b o, A = some ⟨b, o, none⟩ → b ≠ u.g) (hlt : l ≠ [] → ∀ b o, A = some ⟨b, o, none⟩ → b < w.heap.size)
    (hlv : ∀ v ∈ vs, v.l ≠ [] → ∀ b o, v.A = some ⟨b, o, none⟩ → b < w.heap.size) :
    Env w0 (w.alloc (.cells #[.bool neg, .slice A n c] 24)) (⟨w.heap.size, neg, A, n, c, l⟩ :: vs) := by
  have hb := (Below.refl w.heap.size w).alloc (Nat.le_refl _) (.cells #[.bool neg, .slice A n c] 24)
  refine ⟨h.1.trans (hb.mono h.1.size), fun v hv => ?_, ?_⟩
  · rcases List.mem_cons.1 hv with rfl | hv
    · refine ⟨h.1.size, Bx.new w _ _, SlU.to hs hb (Nat.le_refl _), fun hne u hu b o e => ?_⟩
      rcases List.mem_cons.1 hu with rfl | hu
      · have := hlt hne b o e; exact Nat.ne_of_lt this
      · exact hA hne u hu b o e
    · refine ⟨(h.2.1 v hv).1, (h.x hv).alloc _, SlU.to (h.s hv) hb (Nat.le_refl _), fun hne u hu b o e => ?_⟩
      rcases List.mem_cons.1 hu with rfl | hu
      · have := hlv v hv hne b o e; exact Nat.ne_of_lt this
      · exact (h.2.1 v hv).2.2.2 hne u hu b o e
  · simp only [List.map_cons, List.nodup_cons]
    refine ⟨fun hm => ?_, h.2.2⟩
    obtain ⟨v, hv, e⟩ := List.mem_map.1 hm
    have := (h.x hv).lt
    omega
theorem own_block {t : TypeId} {B n c : Nat} {A : Option Addr} {xs : List Value} (h : Own t w B A n c xs) {b o : Nat} (e : A = some ⟨b, o, none⟩) : B ≤ b ∧ b < w.heap.size := by
  rcases h.form with ⟨h1, _⟩ | ⟨g, h1, h2, h3⟩
  · rw [h1] at e; cases e
  · rw [h1] at e; injection e with e; injection e with e1 e2; omega
end
/-- the variables' slices lie in old blocks -/
def Old (w : World) (vs : List VE) : Prop := ∀ v ∈ vs, v.l ≠ [] → ∀ b o, v.A = some ⟨b, o, none⟩ → b < w.heap.size
section
variable {w0 w w' : World} {vs : List VE} {v : VE}
/-- behind a call: its result, of the call's own, in a new variable -/
theorem Env.call_push (h : Env w0 w vs) (hold : Old w vs) (hb : Below w.heap.size w w') {neg : Bool} {A : Option Addr} {n c : Nat} {l : List Nat} (ho : OwnU w' w.heap.size A n c (u32s l)) (hd : Dig W l) (hl : l.length = n) :
    Env w0 (w'.alloc (.cells #[.bool neg, .slice A n c] 24)) (⟨w'.heap.size, neg, A, n, c, l⟩ :: vs) ∧ Old (w'.alloc (.cells #[.bool neg, .slice A n c] 24)) (⟨w'.heap.size, neg, A, n, c, l⟩ :: vs) := by
  have hz := hb.size
  have hold2 : Old w' vs := fun v hv hne b o e => Nat.lt_of_lt_of_le (hold v hv hne b o e) hz
  refine ⟨(h.below hb).push (Own.sl ho hd hl) (fun _ u hu b o e => ?_) (fun _ b o e => (own_block ho e).2) hold2, fun v hv hne b o e => ?_⟩
  · have h1 := (own_block ho e).1
    have h2 := (h.x hu).lt
    omega
  · have hz2 : (w'.alloc (.cells #[.bool neg, .slice A n c] 24)).heap.size = w'.heap.size + 1 := by simp
    rcases List.mem_cons.1 hv with rfl | hv
    · have := (own_block ho e).2; omega
    · have := hold2 v hv hne b o e; omega
theorem Old.below (h : Old w vs) (hb : Below w.heap.size w w') : Old w' vs := fun v hv hne b o e => Nat.lt_of_lt_of_le (h v hv hne b o e) hb.size
/-- behind a call: its result stored into a variable that is there -/
theorem Env.call_set (h : Env w0 w vs) (hold : Old w vs) (hb : Below w.heap.size w w') {neg : Bool} {A : Option Addr} {n c : Nat} {l : List Nat} (ho : OwnU w' w.heap.size A n c (u32s l)) (hd : Dig W l) (hl : l.length = n) (i : Nat) {v0 : VE} (hi : vs[i]? = some v0) :
    Env w0 ((w'.setCell ⟨v0.g, 0, none⟩ (.bool neg)).setCell ⟨v0.g, 1, none⟩ (.slice A n c)) (vs.set i ⟨v0.g, neg, A, n, c, l⟩) ∧ Old ((w'.setCell ⟨v0.g, 0, none⟩ (.bool neg)).setCell ⟨v0.g, 1, none⟩ (.slice A n c)) (vs.set i ⟨v0.g, neg, A, n, c, l⟩) := by
  have hE := h.below hb
  have hz := hb.size
  have hm0 : v0 ∈ vs := List.mem_of_getElem? hi
  have hilt : i < vs.length := (List.getElem?_eq_some_iff.1 hi).1
  have hwz : ((w'.setCell ⟨v0.g, 0, none⟩ (.bool neg)).setCell ⟨v0.g, 1, none⟩ (.slice A n c)).heap.size = w'.heap.size := by simp
  have hnd := hE.2.2
  have hsl : ∀ {A' : Option Addr} {n' c' : Nat} {l' : List Nat}, SlU w' w'.heap.size A' n' c' l' → (l' ≠ [] → ∀ b o, A' = some ⟨b, o, none⟩ → b ≠ v0.g) →
      SlU ((w'.setCell ⟨v0.g, 0, none⟩ (.bool neg)).setCell ⟨v0.g, 1, none⟩ (.slice A n c)) ((w'.setCell ⟨v0.g, 0, none⟩ (.bool neg)).setCell ⟨v0.g, 1, none⟩ (.slice A n c)).heap.size A' n' c' l' := by
    intro A' n' c' l' hs hne
    rw [hwz]
    exact SlU.far (SlU.far hs (p := ⟨v0.g, 0, none⟩) hne _) (p := ⟨v0.g, 1, none⟩) hne _
  have hAne : ∀ u ∈ vs, ∀ b o, A = some ⟨b, o, none⟩ → b ≠ u.g := by
    intro u hu b o e
    have h1 := (own_block ho e).1
    have h2 := (h.x hu).lt
    omega
  have hmemg : ∀ u ∈ vs.set i ⟨v0.g, neg, A, n, c, l⟩, ∃ u' ∈ vs, u'.g = u.g := by
    intro u hu
    rcases List.mem_or_eq_of_mem_set hu with hu | rfl
    · exact ⟨u, hu, rfl⟩
    · exact ⟨v0, hm0, rfl⟩
  have hmap : (vs.set i ⟨v0.g, neg, A, n, c, l⟩).map VE.g = vs.map VE.g := by
    rw [List.map_set]
    refine List.ext_getElem? fun k => ?_
    by_cases hk : i = k
    · subst hk
      rw [List.getElem?_set_self (by simpa using hilt), List.getElem?_map, hi]; rfl
    · rw [List.getElem?_set_ne hk]
  refine ⟨⟨(hE.1.setCell (by exact (h.2.1 v0 hm0).1) _).setCell (by exact (h.2.1 v0 hm0).1) _, fun v hv => ?_, by rw [hmap]; exact hnd⟩, fun v hv hne b o e => ?_⟩
  · obtain ⟨k, hk, rfl⟩ := List.getElem_of_mem hv
    rw [List.length_set] at hk
    by_cases hki : i = k
    · subst hki
      rw [List.getElem_set_self]
      refine ⟨(h.2.1 v0 hm0).1, Bx.set (hE.x hm0) _ _, hsl (Own.sl ho hd hl) (fun _ => hAne v0 hm0), fun _ u hu b o e => ?_⟩
      obtain ⟨u', hu', e2⟩ := hmemg u hu
      rw [← e2]; exact hAne u' hu' b o e
    · rw [List.getElem_set_ne hki]
      have hvm : vs[k] ∈ vs := List.getElem_mem _
      have hg : vs[k].g ≠ v0.g := by
        intro e
        have h1 : (vs.map VE.g)[k]'(by simpa using hk) = (vs.map VE.g)[i]'(by simpa using hilt) := by
          rw [List.getElem_map, List.getElem_map]
          have : vs[i] = v0 := by rw [List.getElem?_eq_getElem hilt] at hi; exact Option.some.inj hi
          rw [this]; exact e
        have h2 := (List.getElem_inj (h := hnd) (i := k) (j := i) (h₀ := by simpa using hk) (h₁ := by simpa using hilt)).1 h1
        exact hki h2.symm
      refine ⟨(h.2.1 _ hvm).1, Bx.far (Bx.far (hE.x hvm) (p := ⟨v0.g, 0, none⟩) hg _) (p := ⟨v0.g, 1, none⟩) hg _, hsl (hE.s hvm) (fun hne => (hE.2.1 _ hvm).2.2.2 hne v0 hm0), fun hne u hu b o e => ?_⟩
      obtain ⟨u', hu', e2⟩ := hmemg u hu
      rw [← e2]; exact (hE.2.1 _ hvm).2.2.2 hne u' hu' b o e
  · rw [hwz]
    rcases List.mem_or_eq_of_mem_set hv with hv | rfl
    · exact Nat.lt_of_lt_of_le (hold v hv hne b o e) hz
    · exact (own_block ho e).2
end
end Go.Proofs.Ytggdmhkdmkldoaa

namespace Go.Proofs.Ytggdmhkdmkldoaa
open Go.RowKit Hb

/-! ### the calls of a law, by what the integers are -/
theorem lng_ival {neg : Bool} {l : List Nat} {z : Int} (h : ival neg l = z) : lng l = tooLong z := by
  rw [lng, tooLong, ← h, ival_natAbs]
section
variable {w : World} {A A' : Option Addr} {n c n' c' : Nat} {l m : List Nat} {na nb : Bool} {x y z : Int}
theorem Add_z (hs : SlU w w.heap.size A n c l) (ht : SlU w w.heap.size A' n' c' m) (hn : n ≤ 1000) (hn' : n' ≤ 1000) (hx : ival na l = x) (hy : ival nb m = y) (hz : x + y = z) (t1 : tooLong x = false) (t2 : tooLong y = false) (t3 : tooLong z = false) :
    Calls Try.prog 47 #[.agg #[.bool na, .slice A n c], .agg #[.bool nb, .slice A' n' c']] w (PostR w z 0) := by
  have h := Add_any na nb hs ht (by omega) (by omega) (Nat.le_refl _) (Nat.le_refl _)
  rw [hx, hy, hz, lng_ival hx, lng_ival hy, t1, t2, t3] at h
  exact h.mono fun _ _ h => h.ok_ rfl
theorem Sub_z (hs : SlU w w.heap.size A n c l) (ht : SlU w w.heap.size A' n' c' m) (hn : n ≤ 1000) (hn' : n' ≤ 1000) (hx : ival na l = x) (hy : ival nb m = y) (hz : x - y = z) (t1 : tooLong x = false) (t2 : tooLong y = false) (t3 : tooLong z = false) :
    Calls Try.prog 50 #[.agg #[.bool na, .slice A n c], .agg #[.bool nb, .slice A' n' c']] w (PostR w z 0) := by
  have h := Sub_any na nb hs ht (by omega) (by omega) (Nat.le_refl _) (Nat.le_refl _)
  rw [hx, hy, hz, lng_ival hx, lng_ival hy, t1, t2, t3] at h
  exact h.mono fun _ _ h => h.ok_ rfl
theorem Mul_z (hs : SlU w w.heap.size A n c l) (ht : SlU w w.heap.size A' n' c' m) (hn : n ≤ 1000) (hn' : n' ≤ 1000) (hx : ival na l = x) (hy : ival nb m = y) (hz : x * y = z) (t1 : tooLong x = false) (t2 : tooLong y = false) (t3 : tooLong z = false) :
    Calls Try.prog 46 #[.agg #[.bool na, .slice A n c], .agg #[.bool nb, .slice A' n' c']] w (PostR w z 0) := by
  have h := Mul_any na nb hs ht (by omega) (Nat.le_refl _) (Nat.le_refl _)
  rw [hx, hy, hz, lng_ival hx, lng_ival hy, t1, t2, t3] at h
  exact h.mono fun _ _ h => h.ok_ rfl
theorem Cmp_z (hs : SlU w w.heap.size A n c l) (ht : SlU w w.heap.size A' n' c' m) (hx : ival na l = x) (hy : ival nb m = y) :
    Calls Try.prog 32 #[.agg #[.bool na, .slice A n c], .agg #[.bool nb, .slice A' n' c']] w (CmpZPost (cmpZ x y) w) := by
  have h := Cmp_any na nb hs ht (Nat.le_refl _) (Nat.le_refl _)
  rw [hx, hy] at h
  exact h
theorem Sign_z (hs : SlU w w.heap.size A n c l) (hx : ival na l = x) :
    Calls Try.prog 42 #[.agg #[.bool na, .slice A n c]] w (CmpZPost x.sign w) := by
  have h := sign_any na hs (Nat.le_refl _)
  rw [hx] at h
  exact h
theorem Sign_zk {k : Int} (hs : SlU w w.heap.size A n c l) (hx : ival na l = x) (hk : x.sign = k) :
    Calls Try.prog 42 #[.agg #[.bool na, .slice A n c]] w (CmpZPost k w) := by
  rw [← hk]; exact Sign_z hs hx
theorem Cmp_zk {k : Int} (hs : SlU w w.heap.size A n c l) (ht : SlU w w.heap.size A' n' c' m) (hx : ival na l = x) (hy : ival nb m = y) (hk : cmpZ x y = k) :
    Calls Try.prog 32 #[.agg #[.bool na, .slice A n c], .agg #[.bool nb, .slice A' n' c']] w (CmpZPost k w) := by
  rw [← hk]; exact Cmp_z hs ht hx hy
theorem same_z (hs : SlU w w.heap.size A n c l) (ht : SlU w w.heap.size A' n' c' m) (hx : ival na l = x) (hy : ival nb m = x) :
    Calls Try.prog 48 #[.agg #[.bool na, .slice A n c], .int .i64 0, .agg #[.bool nb, .slice A' n' c'], .int .i64 0] w (SamePost true w) := by
  have h := same_any na nb hs ht (Nat.le_refl _) (Nat.le_refl _) 0 0
  rw [hx, hy, decide_eq_true rfl, decide_eq_true rfl] at h
  exact h
end
theorem sign_cmp (x y : Int) : (x - y).sign = cmpZ x y := by
  unfold cmpZ
  split
  · exact Int.sign_eq_neg_one_of_neg (by omega)
  · split
    · exact Int.sign_eq_one_of_pos (by omega)
    · rw [show x - y = 0 by omega]; rfl
/-- the lowest limbs: what few hands back -/
def FewQ (w : World) (neg : Bool) (l1 : List Nat) (m1 : Nat) (e : Ending) (w' : World) : Prop :=
  ∃ A c, e = .returned (.agg #[.bool neg, .slice A m1 c]) ∧ OwnU w' w.heap.size A m1 c (u32s l1) ∧ Below w.heap.size w w'
theorem few_q {neg : Bool} {A : Option Addr} {l : List Nat} {n c : Nat} (k : Nat) (hk : k ≤ 1000) (hA : A = none → c = 0) {w0 : World} (hs : SlU w0 w0.heap.size A n c l) :
    ∃ l1 m1, l1.length = m1 ∧ m1 ≤ k ∧ Dig W l1 ∧ ∀ w, SlU w w.heap.size A n c l → Calls Try.prog 31 #[.agg #[.bool neg, .slice A n c], .int .i64 (k : Int)] w (FewQ w neg l1 m1) :=
  ⟨l.take (min k n), min k n, by rw [List.length_take, hs.len]; omega, by omega, hs.dig.take _, fun w h => few_any neg h hA (Nat.le_refl _) k hk⟩
theorem add_bnd {x y : Int} {k : Nat} (hx : x.natAbs < 2 ^ k) (hy : y.natAbs < 2 ^ k) : (x + y).natAbs < 2 ^ (k + 1) := by
  have : (x + y).natAbs ≤ x.natAbs + y.natAbs := Int.natAbs_add_le x y
  rw [Nat.pow_succ]; omega
theorem sub_bnd {x y : Int} {k : Nat} (hx : x.natAbs < 2 ^ k) (hy : y.natAbs < 2 ^ k) : (x - y).natAbs < 2 ^ (k + 1) := by
  have : (x - y).natAbs ≤ x.natAbs + y.natAbs := Int.natAbs_sub_le x y
  rw [Nat.pow_succ]; omega
theorem mul_bnd {x y : Int} {j k : Nat} (hx : x.natAbs < 2 ^ j) (hy : y.natAbs < 2 ^ k) : (x * y).natAbs < 2 ^ (j + k) := by
  rw [Int.natAbs_mul, Nat.pow_add]
  exact Nat.mul_lt_mul'' hx hy
theorem few_bnd {neg : Bool} {l : List Nat} {k m : Nat} (hd : Dig W l) (hl : l.length = m) (hm : m ≤ k) : (ival neg l).natAbs < 2 ^ (32 * k) := by
  rw [← W_pow_eq]
  exact ival_lt hd (by omega)
/-! ### the variables at the beginning: the arguments, boxed -/
theorem Sl_block {w : World} {B : Nat} {A : Option Addr} {n c : Nat} {l : List Nat} (hs : SlU w B A n c l) : l ≠ [] → ∀ b o, A = some ⟨b, o, none⟩ → b < B := by
  intro hne b o e
  obtain ⟨b', o', h1, h2, _⟩ := hs.rd (u32s_ne (List.length_pos_iff.2 hne))
  rw [h1] at e
  injection e with e; injection e with e1 e2; omega
theorem Env.box {w0 w : World} {vs : List VE} (h : Env w0 w vs) (hold : Old w vs) {neg : Bool} {A : Option Addr} {n c : Nat} {l : List Nat} (hs : SlU w0 w0.heap.size A n c l) {g : Nat} (hg : w.heap.size = g) :
    Env w0 (w.alloc (.cells #[.bool neg, .slice A n c] 24)) (⟨g, neg, A, n, c, l⟩ :: vs) ∧ Old (w.alloc (.cells #[.bool neg, .slice A n c] 24)) (⟨g, neg, A, n, c, l⟩ :: vs) := by
  subst hg
  have hz := h.1.size
  have hO := Sl_block hs
  refine ⟨h.push (SlU.to hs h.1 (Nat.le_refl _)) (fun hne u hu b o e => ?_) (fun hne b o e => Nat.lt_of_lt_of_le (hO hne b o e) hz) hold, fun v hv hne b o e => ?_⟩
  · have h1 := hO hne b o e
    have h2 := (h.2.1 u hu).1
    omega
  · have hz2 : (w.alloc (.cells #[.bool neg, .slice A n c] 24)).heap.size = w.heap.size + 1 := by simp
    rcases List.mem_cons.1 hv with rfl | hv
    · have := hO hne b o e; omega
    · have := hold v hv hne b o e; omega
theorem Old.nil (w : World) : Old w [] := fun v hv => (by cases hv)
end Go.Proofs.Ytggdmhkdmkldoaa

namespace Go.Proofs.Ytggdmhkdmkldoaa
open Go.RowKit Hb

set_option maxRecDepth 100000 in
set_option maxHeartbeats 1000000 in
theorem abs_any {neg : Bool} {A : Option Addr} {l : List Nat} {n c : Nat} {w : World} {x y : Int} (hs : SlU w w.heap.size A n c l) (hn : n ≤ 1000) (hx : ival neg l = x) (hy : (x.natAbs : Int) = y) :
    Calls Try.prog 49 #[.agg #[.bool neg, .slice A n c]] w (PostI w y) := by
  have HB := Lib.hid (Below.refl w.heap.size w)
  have HS := Lib.hid (fun w1 (hb : Below w.heap.size w w1) => sign_any neg (hs.below (C := w.heap.size) hb (Nat.le_refl _)) hb.size)
  have HNg := Lib.hid (fun w1 (hb : Below w.heap.size w w1) => neg_any neg (hs.below (C := w.heap.size) hb (Nat.le_refl _)) (by omega) hb.size)
  have HNm := Lib.hid (fun w1 (hb : Below w.heap.size w w1) => norm_any neg (hs.below (C := w.heap.size) hb (Nat.le_refl _)) (by omega) hb.size)
  rw [hx] at HS HNm
  have hng : ival (!neg) l = -x := by rw [← hx]; cases neg <;> simp [ival]
  rw [hng] at HNg
  have h0 := (Bx.new w (.bool neg) (.slice A n c)).alloc (.cells #[.bool false, .slice none 0 0] 24)
  have h1 : Bx ((w.alloc (.cells #[.bool neg, .slice A n c] 24)).alloc (.cells #[.bool false, .slice none 0 0] 24)) (w.heap.size + 1) (.bool false) (.slice none 0 0) := by
    have := Bx.new (w.alloc (.cells #[.bool neg, .slice A n c] 24)) (.bool false) (.slice none 0 0); simpa only [World.size_alloc] using this
  have HX := Lib.hid (And.intro h0 h1)
  have HW := Lib.hid (((Below.refl w.heap.size w).alloc (Nat.le_refl _) (.cells #[.bool neg, .slice A n c] 24)).alloc (by simp) (.cells #[.bool false, .slice none 0 0] 24))
  have hsg : decide (x.sign < 0) = decide (x < 0) := decide_eq_decide.2 Int.sign_neg_iff
  clear hs hx hng h0 h1
  by_cases hlt : x < 0
  · have hyx : -x = y := by omega
    rw [hyx] at HNg
    have hd : decide (x.sign < 0) = true := by rw [hsg]; exact decide_eq_true hlt
    generalize x.sign = sv at *
    clear hyx hlt hsg hy
    go_enter Try.func49, Try.ntmps49
    go_wp2_with fail
    refine (HS.out _ HW.out).mono ?_
    rintro ex w3 ⟨rfl, hb3⟩
    have hz3 := hb3.size
    simp at hz3
    have HX3 := Lib.hid (And.intro (HX.out.1.below hb3 (by simp; omega)) (HX.out.2.below hb3 (by simp)))
    have HW3 := Lib.hid (HW.out.trans (hb3.mono (B' := w.heap.size) (by simp; omega)))
    obtain ⟨a0, a1, _, _⟩ := HX3.out.1.facts
    clear hb3
    go_wp2_with fail
    refine (HNg.out _ HW3.out).mono ?_
    rintro ex w4 ⟨v, rfl, ⟨A2, c2, rfl, ho2⟩, hb4⟩
    obtain ⟨r0, r1, r2, r3⟩ := (HX3.out.2.below hb4 (by omega)).facts
    have HR := Lib.hid (fun u u' => ResI.stored (w := w) (g := w.heap.size + 1) (u := u) (u' := u') ⟨A2, c2, rfl, ho2⟩ (HW3.out.trans (hb4.mono (B' := w.heap.size) (by omega))) (by omega) (by omega))
    clear ho2 hb4 a0 a1
    go_wp2
    exact bodyPost_ret (v := .agg #[.bool (decide (y < 0)), .slice A2 (digs W y.natAbs).length c2]) (by simp [results, Try.results49, go_sem, r0, r1]) rfl ⟨_, rfl, (HR.out _ _).1, (HR.out _ _).2⟩
  · have hyx : x = y := by omega
    rw [hyx] at HNm
    have hd : decide (x.sign < 0) = false := by rw [hsg]; exact decide_eq_false hlt
    generalize x.sign = sv at *
    clear hyx hlt hsg hy
    go_enter Try.func49, Try.ntmps49
    go_wp2_with fail
    refine (HS.out _ HW.out).mono ?_
    rintro ex w3 ⟨rfl, hb3⟩
    have hz3 := hb3.size
    simp at hz3
    have HX3 := Lib.hid (And.intro (HX.out.1.below hb3 (by simp; omega)) (HX.out.2.below hb3 (by simp)))
    have HW3 := Lib.hid (HW.out.trans (hb3.mono (B' := w.heap.size) (by simp; omega)))
    obtain ⟨a0, a1, _, _⟩ := HX3.out.1.facts
    clear hb3
    go_wp2_with fail
    refine (HNm.out _ HW3.out).mono ?_
    rintro ex w4 ⟨v, rfl, ⟨A2, c2, rfl, ho2⟩, hb4⟩
    obtain ⟨r0, r1, r2, r3⟩ := (HX3.out.2.below hb4 (by omega)).facts
    have HR := Lib.hid (fun u u' => ResI.stored (w := w) (g := w.heap.size + 1) (u := u) (u' := u') ⟨A2, c2, rfl, ho2⟩ (HW3.out.trans (hb4.mono (B' := w.heap.size) (by omega))) (by omega) (by omega))
    clear ho2 hb4 a0 a1
    go_wp2
    exact bodyPost_ret (v := .agg #[.bool (decide (y < 0)), .slice A2 (digs W y.natAbs).length c2]) (by simp [results, Try.results49, go_sem, r0, r1]) rfl ⟨_, rfl, (HR.out _ _).1, (HR.out _ _).2⟩

/-- two integers handed back -/
def QR2 (w : World) (z1 z2 : Int) (e : Ending) (w' : World) : Prop :=
  ∃ v1 v2, e = .returned (.tuple #[v1, v2, .int .i64 0]) ∧ ResI w' w.heap.size v1 z1 ∧ ResI w' w.heap.size v2 z2 ∧ Below w.heap.size w w'
def QRz (w : World) (e : Ending) (w' : World) : Prop := e = .returned (.tuple #[zeroV, zeroV, .int .i64 11]) ∧ Below w.heap.size w w'
section
variable {w : World} {A A' : Option Addr} {n c n' c' : Nat} {l m : List Nat} {na nb : Bool} {x y z1 z2 : Int}
theorem QuoRem_z (hs : SlU w w.heap.size A n c l) (ht : SlU w w.heap.size A' n' c' m) (hn : n ≤ 1000) (hn' : n' ≤ 1000) (hx : ival na l = x) (hy : ival nb m = y) (hy0 : y ≠ 0) (e1 : x.tdiv y = z1) (e2 : x.tmod y = z2) (t1 : tooLong x = false) (t2 : tooLong y = false) :
    Calls Try.prog 20 #[.agg #[.bool na, .slice A n c], .agg #[.bool nb, .slice A' n' c']] w (QR2 w z1 z2) := by
  have h := QuoRem_any na nb hs ht (by omega) (by omega) (Nat.le_refl _) (Nat.le_refl _)
  rw [hx, hy, e1, e2, lng_ival hx, lng_ival hy, t1, t2, Bool.or_false, if_neg (by simp), if_neg hy0] at h
  refine h.mono fun e w' h => ?_
  obtain ⟨v1, v2, h1, h2, _, h3⟩ := h
  exact ⟨v1, v2, h1, (h2 rfl).1, (h2 rfl).2.1, h3⟩
theorem DivMod_z (hs : SlU w w.heap.size A n c l) (ht : SlU w w.heap.size A' n' c' m) (hn : n ≤ 1000) (hn' : n' ≤ 1000) (hx : ival na l = x) (hy : ival nb m = y) (hy0 : y ≠ 0) (e1 : dvD x y = z1) (e2 : dvM x y = z2) (t1 : tooLong x = false) (t2 : tooLong y = false) (t3 : tooLong z1 = false) :
    Calls Try.prog 21 #[.agg #[.bool na, .slice A n c], .agg #[.bool nb, .slice A' n' c']] w (QR2 w z1 z2) := by
  have h := DivMod_any na nb hs ht (by omega) (by omega) (Nat.le_refl _) (Nat.le_refl _)
  have hc : dvCode false x y = 0 := by rw [dvCode, if_neg (by simp), if_neg hy0, e1, t3]; rfl
  rw [hx, hy, e1, e2, lng_ival hx, lng_ival hy, t1, t2, Bool.or_false, hc] at h
  refine h.mono fun e w' h => ?_
  obtain ⟨v1, v2, h1, h2, _, h3⟩ := h
  exact ⟨v1, v2, h1, (h2 rfl).1, (h2 rfl).2.1, h3⟩
theorem QuoRem_0 (hs : SlU w w.heap.size A n c l) (ht : SlU w w.heap.size A' n' c' m) (hn : n ≤ 1000) (hn' : n' ≤ 1000) (hx : ival na l = x) (hy : ival nb m = y) (hy0 : y = 0) (t1 : tooLong x = false) (t2 : tooLong y = false) :
    Calls Try.prog 20 #[.agg #[.bool na, .slice A n c], .agg #[.bool nb, .slice A' n' c']] w (QRz w) := by
  have h := QuoRem_any na nb hs ht (by omega) (by omega) (Nat.le_refl _) (Nat.le_refl _)
  rw [hx, hy, lng_ival hx, lng_ival hy, t1, t2, Bool.or_false, if_neg (by simp), if_pos hy0] at h
  refine h.mono fun e w' h => ?_
  obtain ⟨v1, v2, h1, _, h2, h3⟩ := h
  obtain ⟨rfl, rfl⟩ := h2 (by decide)
  exact ⟨h1, h3⟩
theorem DivMod_0 (hs : SlU w w.heap.size A n c l) (ht : SlU w w.heap.size A' n' c' m) (hn : n ≤ 1000) (hn' : n' ≤ 1000) (hx : ival na l = x) (hy : ival nb m = y) (hy0 : y = 0) (t1 : tooLong x = false) (t2 : tooLong y = false) :
    Calls Try.prog 21 #[.agg #[.bool na, .slice A n c], .agg #[.bool nb, .slice A' n' c']] w (QRz w) := by
  have h := DivMod_any na nb hs ht (by omega) (by omega) (Nat.le_refl _) (Nat.le_refl _)
  have hc : dvCode false x y = 11 := by rw [dvCode, if_neg (by simp), if_pos hy0]
  rw [hx, hy, lng_ival hx, lng_ival hy, t1, t2, Bool.or_false, hc] at h
  refine h.mono fun e w' h => ?_
  obtain ⟨v1, v2, h1, _, h2, h3⟩ := h
  obtain ⟨rfl, rfl⟩ := h2 (by decide)
  exact ⟨h1, h3⟩
end
/-- behind a call: two results, of the call's own, in two new variables -/
theorem Env.call_push2 {w0 w w' : World} {vs : List VE} (h : Env w0 w vs) (hold : Old w vs) (hb : Below w.heap.size w w') {neg neg2 : Bool} {A A2 : Option Addr} {n c n2 c2 : Nat} {l l2 : List Nat} (ho : OwnU w' w.heap.size A n c (u32s l)) (hd : Dig W l) (hl : l.length = n)
    (ho2 : OwnU w' w.heap.size A2 n2 c2 (u32s l2)) (hd2 : Dig W l2) (hl2 : l2.length = n2) :
    Env w0 ((w'.alloc (.cells #[.bool neg, .slice A n c] 24)).alloc (.cells #[.bool neg2, .slice A2 n2 c2] 24)) (⟨w'.heap.size + 1, neg2, A2, n2, c2, l2⟩ :: ⟨w'.heap.size, neg, A, n, c, l⟩ :: vs) ∧
      Old ((w'.alloc (.cells #[.bool neg, .slice A n c] 24)).alloc (.cells #[.bool neg2, .slice A2 n2 c2] 24)) (⟨w'.heap.size + 1, neg2, A2, n2, c2, l2⟩ :: ⟨w'.heap.size, neg, A, n, c, l⟩ :: vs) := by
  have k := h.call_push hold hb (neg := neg) ho hd hl
  have hz : (w'.alloc (.cells #[.bool neg, .slice A n c] 24)).heap.size = w'.heap.size + 1 := by simp
  have ho3 := Own.alloc ho2 (.cells #[.bool neg, .slice A n c] 24)
  have p := k.1.push (neg := neg2) (Own.sl ho3 hd2 hl2) (fun _ u hu b o e => ?_) (fun _ b o e => (own_block ho3 e).2) k.2
  · rw [hz] at p
    refine ⟨p, fun v hv hne b o e => ?_⟩
    have hz2 : ((w'.alloc (.cells #[.bool neg, .slice A n c] 24)).alloc (.cells #[.bool neg2, .slice A2 n2 c2] 24)).heap.size = w'.heap.size + 1 + 1 := by simp
    rcases List.mem_cons.1 hv with rfl | hv
    · have := (own_block ho2 e).2; omega
    · have := k.2 v hv hne b o e; omega
  · have h1 := own_block ho2 e
    rcases List.mem_cons.1 hu with rfl | hu
    · exact Nat.ne_of_lt h1.2
    · have h2 := (h.x hu).lt; omega
theorem qr_sum (x y : Int) : x.tdiv y * y + x.tmod y = x := by
  rw [Int.mul_comm]; exact Int.mul_tdiv_add_tmod x y
theorem dm_sum (x y : Int) : dvD x y * y + dvM x y = x := by
  have h := qr_sum x y
  unfold dvD dvM
  split
  · rw [Int.add_mul]; omega
  · exact h
theorem r_abs {x y : Int} (hy : y ≠ 0) : (x.tmod y).natAbs < y.natAbs := by
  rw [Int.natAbs_tmod]
  exact Nat.mod_lt _ (by omega)
theorem r_sign {x y : Int} (h : x.tmod y ≠ 0) : (x.tmod y).sign = x.sign := by
  rcases Int.lt_trichotomy x 0 with hx | hx | hx
  · have h1 : x.tmod y ≤ 0 := by
      have := Int.tmod_nonneg y (a := -x) (by omega)
      rw [Int.neg_tmod] at this; omega
    rw [Int.sign_eq_neg_one_of_neg hx, Int.sign_eq_neg_one_of_neg (by omega)]
  · subst hx; simp at h
  · have h1 := Int.tmod_nonneg y (a := x) (by omega)
    rw [Int.sign_eq_one_of_pos hx, Int.sign_eq_one_of_pos (by omega)]
theorem m_cases {x y : Int} (_hy : y ≠ 0) : (dvC x y = false ∧ dvD x y = x.tdiv y ∧ dvM x y = x.tmod y ∧ (x.tmod y = 0 ∨ (x.tmod y < 0 ↔ y < 0))) ∨ (dvC x y = true ∧ dvD x y = x.tdiv y + -1 ∧ dvM x y = x.tmod y + y ∧ x.tmod y ≠ 0 ∧ ¬ (x.tmod y < 0 ↔ y < 0)) := by
  cases hc : dvC x y
  · left
    refine ⟨rfl, by simp [dvD, hc], by simp [dvM, hc], ?_⟩
    simp only [dvC, Bool.and_eq_false_iff, decide_eq_false_iff_not, Classical.not_not] at hc
    rcases hc with h | h
    · exact .inl h
    · right; simpa using h
  · right
    refine ⟨rfl, by simp [dvD, hc], by simp [dvM, hc], ?_⟩
    simp only [dvC, Bool.and_eq_true, decide_eq_true_eq] at hc
    exact ⟨hc.1, fun h => hc.2 (by simpa using h)⟩
theorem m_abs {x y : Int} (hy : y ≠ 0) : (dvM x y).natAbs < y.natAbs := by
  have h1 := r_abs (x := x) hy
  rcases m_cases (x := x) hy with ⟨_, _, h, _⟩ | ⟨_, _, h, h2, h3⟩
  · rw [h]; exact h1
  · rw [h]; omega
theorem m_zero {x y : Int} (hy : y ≠ 0) : x.tmod y = 0 ↔ dvM x y = 0 := by
  have h1 := r_abs (x := x) hy
  rcases m_cases (x := x) hy with ⟨_, _, h, _⟩ | ⟨_, _, h, h2, h3⟩
  · rw [h]
  · rw [h]; constructor
    · intro h; exact absurd h h2
    · intro h; omega
theorem m_sign {x y : Int} (hy : y ≠ 0) (hm : dvM x y ≠ 0) : (dvM x y).sign = y.sign := by
  have h1 := r_abs (x := x) hy
  have key : (dvM x y < 0 ∧ y < 0) ∨ (0 < dvM x y ∧ 0 < y) := by
    rcases m_cases (x := x) hy with ⟨_, _, h, h2⟩ | ⟨_, _, h, h2, h3⟩
    · rw [h] at hm ⊢
      rcases h2 with h2 | h2
      · exact absurd h2 hm
      · omega
    · rw [h] at hm ⊢; omega
  rcases key with ⟨a, b⟩ | ⟨a, b⟩
  · rw [Int.sign_eq_neg_one_of_neg a, Int.sign_eq_neg_one_of_neg b]
  · rw [Int.sign_eq_one_of_pos a, Int.sign_eq_one_of_pos b]
/-- the two quotients are apart just where something remains and the signs are unlike -/
theorem qd_apart {x y : Int} (hy : y ≠ 0) : (x.tdiv y = dvD x y) ↔ (x.tmod y = 0 ∨ x.sign = y.sign) := by
  by_cases hr : x.tmod y = 0
  · rcases m_cases (x := x) hy with ⟨_, h, _, _⟩ | ⟨_, _, _, h2, _⟩
    · rw [h]; simp [hr]
    · exact absurd hr h2
  · have hs := r_sign hr
    rcases m_cases (x := x) hy with ⟨_, h, _, h2⟩ | ⟨_, h, _, _, h3⟩
    · rw [h]
      constructor
      · intro _; right
        rw [← hs]
        rcases h2 with h2 | h2
        · exact absurd h2 hr
        · by_cases h4 : y < 0
          · rw [Int.sign_eq_neg_one_of_neg h4, Int.sign_eq_neg_one_of_neg (h2.2 h4)]
          · rw [Int.sign_eq_one_of_pos (by omega : 0 < y), Int.sign_eq_one_of_pos (by have := mt h2.1 h4; omega)]
      · intro _; rfl
    · rw [h]
      constructor
      · intro h4; omega
      · rintro (h4 | h4)
        · exact absurd h4 hr
        · exfalso
          apply h3
          rw [← hs] at h4
          rw [← Int.sign_neg_iff, h4, Int.sign_neg_iff]
end Go.Proofs.Ytggdmhkdmkldoaa

namespace Go.Proofs.Ytggdmhkdmkldoaa
open Go.RowKit Hb

theorem pval_rev (r : Nat) (l : List Nat) : pval r l.reverse = nv r l := by
  induction l with
  | nil => rfl
  | cons x l ih => rw [List.reverse_cons, pval_snoc, ih, nv_cons, Nat.mul_comm]; omega
theorem chr_byte {d : Nat} (h : d < 36) : (UInt8.ofNat (chrN d)).toNat = chrN d := by
  have : chrN d < 256 := by unfold chrN; split <;> omega
  simp only [UInt8.toNat_ofNat']
  exact Nat.mod_eq_of_lt this
theorem dval_chr {d : Nat} (h : d < 36) : dval (UInt8.ofNat (chrN d)).toNat = d := by
  rw [chr_byte h]
  unfold chrN dval
  by_cases h1 : d < 10
  · rw [if_pos h1, if_pos (by omega)]; omega
  · rw [if_neg h1, if_neg (by omega), if_pos (by omega)]; omega
theorem chr_ne {d : Nat} (h : d < 36) : UInt8.ofNat (chrN d) ≠ 45 := by
  intro e
  have h1 := chr_byte h
  rw [e] at h1
  have h2 : (45 : UInt8).toNat = 45 := rfl
  rw [h2] at h1
  unfold chrN at h1
  split at h1 <;> omega
theorem sdig_chr {l : List Nat} (h : ∀ d ∈ l, d < 36) : sdig (l.map fun d => UInt8.ofNat (chrN d)) = l := by
  induction l with
  | nil => rfl
  | cons d l ih =>
    simp only [sdig, List.map_cons, List.map_map] at ih ⊢
    rw [dval_chr (h d (by simp))]
    congr 1
    exact ih (fun x hx => h x (by simp [hx]))
/-- a text's parts -/
theorem txt_parts (neg : Bool) {r n : Nat} (hr : 2 ≤ r) (hr2 : r ≤ 36) :
    ∃ ds : List Nat, ds ≠ [] ∧ (∀ d ∈ ds, d < r) ∧ pval r ds = n ∧ ∃ sg : Bool, (if sg then -(n : Int) else (n : Int)) = (if neg then -(n : Int) else n) ∧
      (txtL neg r n).map UInt8.ofNat = (if sg then [45] else []) ++ ds.map fun d => UInt8.ofNat (chrN d) := by
  by_cases h0 : n = 0
  · subst h0
    refine ⟨[0], by simp, by simp; omega, by simp [pval], false, by simp, ?_⟩
    simp [txtL, chrN]
  · refine ⟨(digs r n).reverse, ?_, ?_, ?_, neg, rfl, ?_⟩
    · intro e
      have := List.reverse_eq_nil_iff.1 e
      exact h0 ((digs_eq_nil (by omega) n).1 this)
    · intro d hd
      exact dig_digs (by omega) n d (List.mem_reverse.1 hd)
    · rw [pval_rev, nv_digs (by omega)]
    · rw [txtL, if_neg h0, List.map_append, List.map_reverse, List.map_map, List.map_reverse]
      congr 1
      cases neg <;> rfl
theorem parse_txt {ds : List Nat} {r : Nat} (sg : Bool) (hr2 : r ≤ 36) (hne : ds ≠ []) (hd : ∀ d ∈ ds, d < r) :
    pVal ((if sg then [45] else []) ++ ds.map fun d => UInt8.ofNat (chrN d)) r = (if sg then -(pval r ds : Int) else (pval r ds : Int)) ∧ pBad ((if sg then [45] else []) ++ ds.map fun d => UInt8.ofNat (chrN d)) r = false := by
  have h36 : ∀ d ∈ ds, d < 36 := fun d h => Nat.lt_of_lt_of_le (hd d h) hr2
  have hrest : pNeg ((if sg then [45] else []) ++ ds.map fun d => UInt8.ofNat (chrN d)) = sg ∧ pRest ((if sg then [45] else []) ++ ds.map fun d => UInt8.ofNat (chrN d)) = ds.map fun d => UInt8.ofNat (chrN d) := by
    cases sg
    · have hn : pNeg (([] : List UInt8) ++ ds.map fun d => UInt8.ofNat (chrN d)) = false := by
        cases ds with
        | nil => exact absurd rfl hne
        | cons d ds =>
          rw [pNeg, List.nil_append, List.map_cons, List.head?_cons, beq_eq_false_iff_ne]
          intro e
          injection e with e
          exact chr_ne (h36 d (by simp)) e
      exact ⟨hn, by rw [pRest]; simp only [Bool.false_eq_true, if_false]; rw [hn]; rfl⟩
    · exact ⟨rfl, rfl⟩
  refine ⟨?_, ?_⟩
  · rw [pVal, hrest.1, hrest.2, sdig_chr h36]
    cases sg <;> rfl
  · rw [pBad, hrest.2, Bool.or_eq_false_iff]
    refine ⟨by cases ds with | nil => exact absurd rfl hne | cons d ds => rfl, ?_⟩
    rw [List.any_eq_false]
    intro c hc
    obtain ⟨d, h1, rfl⟩ := List.mem_map.1 hc
    rw [dval_chr (h36 d h1)]
    have := hd d h1
    simp; omega
theorem read_back (neg : Bool) {r n : Nat} (hr : 2 ≤ r) (hr2 : r ≤ 36) : pVal ((txtL neg r n).map UInt8.ofNat) r = (if neg then -(n : Int) else n) ∧ pBad ((txtL neg r n).map UInt8.ofNat) r = false := by
  obtain ⟨ds, h1, h2, h3, sg, h4, h5⟩ := txt_parts neg (n := n) hr hr2
  rw [h5]
  have := parse_txt sg hr2 h1 h2
  rw [h3, h4] at this
  exact this
theorem txt_same {na nb : Bool} {r m n : Nat} (h : (if na then -(m : Int) else (m : Int)) = (if nb then -(n : Int) else n)) : txtL na r m = txtL nb r n := by
  have hmn : m = n := by cases na <;> cases nb <;> simp at h <;> omega
  subst hmn
  by_cases h0 : m = 0
  · subst h0; rfl
  · have : na = nb := by cases na <;> cases nb <;> simp at h ⊢ <;> omega
    rw [this]
theorem txt_inj {na nb : Bool} {r m n : Nat} (hr : 2 ≤ r) (hr2 : r ≤ 36) (h : (txtL na r m).map UInt8.ofNat = (txtL nb r n).map UInt8.ofNat) : (if na then -(m : Int) else (m : Int)) = (if nb then -(n : Int) else n) := by
  rw [← (read_back na (n := m) hr hr2).1, ← (read_back nb (n := n) hr hr2).1, h]
theorem own_none {t : TypeId} {w : World} {B n c : Nat} {A : Option Addr} {xs : List Value} (h : Own t w B A n c xs) : A = none → c = 0 := by
  intro e
  rcases h.form with ⟨_, _, h1⟩ | ⟨g, h1, _⟩
  · exact h1
  · rw [h1] at e; cases e
theorem ival_if (neg : Bool) (l : List Nat) : ival neg l = if neg then -(nv W l : Int) else (nv W l : Int) := rfl
/-- the text of an integer -/
def txtZ (z : Int) (r : Nat) : List Nat := txtL (decide (z < 0)) r z.natAbs
theorem txtZ_eq {neg : Bool} {l : List Nat} {z : Int} (h : ival neg l = z) (r : Nat) : txtL neg r (nv W l) = txtZ z r := by
  refine txt_same ?_
  rw [← ival_if, h]
  by_cases hz : z < 0
  · rw [if_pos (by simpa using hz)]; omega
  · rw [if_neg (by simpa using hz)]; omega
theorem txtZ_back (z : Int) {r : Nat} (hr : 2 ≤ r) (hr2 : r ≤ 36) : pVal ((txtZ z r).map UInt8.ofNat) r = z ∧ pBad ((txtZ z r).map UInt8.ofNat) r = false := by
  have h := read_back (decide (z < 0)) (n := z.natAbs) hr hr2
  refine ⟨h.1.trans ?_, h.2⟩
  by_cases hz : z < 0
  · rw [if_pos (by simpa using hz)]; omega
  · rw [if_neg (by simpa using hz)]; omega
theorem strN_data (l : List Nat) : (strN l).data.toList = l.map UInt8.ofNat := rfl
theorem strN_inj {x y : Int} {r : Nat} (hr : 2 ≤ r) (hr2 : r ≤ 36) (h : strN (txtZ x r) = strN (txtZ y r)) : x = y := by
  have h2 : (txtZ x r).map UInt8.ofNat = (txtZ y r).map UInt8.ofNat := by rw [← strN_data, ← strN_data, h]
  rw [← (txtZ_back x hr hr2).1, ← (txtZ_back y hr hr2).1, h2]
def TextQ (w : World) (s : ByteArray) (e : Ending) (w' : World) : Prop := e = .returned (.tuple #[.string s, .int .i64 0]) ∧ Below w.heap.size w w'
theorem Text_z {w : World} {A : Option Addr} {n c : Nat} {l : List Nat} {neg : Bool} {z : Int} {r : Nat} {R : Int} {s : ByteArray} (hR : R = (r : Int)) (hr : 2 ≤ r) (hr2 : r ≤ 36) (hs : SlU w w.heap.size A n c l) (hn : n ≤ 1000) (hx : ival neg l = z) (t1 : tooLong z = false) (hq : strN (txtZ z r) = s) :
    Calls Try.prog 29 #[.agg #[.bool neg, .slice A n c], .int .i64 R] w (TextQ w s) := by
  subst hR
  have h := Text_any neg hs (by omega) (Nat.le_refl _) (r : Int)
  rw [lng_ival hx, t1, tList, tCode, if_neg (by simp), if_neg (by omega), if_neg (by simp), if_neg (by omega), Int.toNat_natCast, txtZ_eq hx] at h
  rw [← hq]
  exact h
theorem Parse_z {w : World} {z : Int} {r : Nat} {R : Int} {s : ByteArray} (hR : R = (r : Int)) (hr : 2 ≤ r) (hr2 : r ≤ 36) (t1 : tooLong z = false) (hq : strN (txtZ z r) = s) (hs : s.size ≤ maxLen) :
    Calls Try.prog 27 #[.string s, .int .i64 R] w (PostR w z 0) := by
  subst hR
  have h := Parse_any s (r : Int) w hs
  have hb := txtZ_back z hr hr2
  have e : s.data.toList = (txtZ z r).map UInt8.ofNat := by rw [← hq]; rfl
  rw [e, hb.1] at h
  have hc : pCode ((txtZ z r).map UInt8.ofNat) r = 0 := by rw [pCode_err hr hr2 hb.2, hb.1, t1]; rfl
  rw [hc] at h
  exact h.mono fun _ _ h => h.ok_ rfl
theorem strN_size {z : Int} {r : Nat} (hr : 2 ≤ r) (t : tooLong z = false) : (strN (txtZ z r)).size ≤ 4098 := by
  have h1 : (strN (txtZ z r)).size = (txtZ z r).length := by simp [strN, ByteArray.size]
  rw [h1, txtZ, txtL]
  have h2 := Classical.not_not.1 (of_decide_eq_false (tooLong_iff ▸ t))
  have h3 := digs_len_r hr h2
  split
  · simp
  · split <;> simp <;> omega
end Go.Proofs.Ytggdmhkdmkldoaa

namespace Go.Proofs.Ytggdmhkdmkldoaa
open Go.RowKit Hb

/-- at the head of the loop: two rows of the call's own, the greatest common divisor kept -/
def GRel (W0 : World) (G N g : Nat) (xv yv : Value) (wr : World) : Prop :=
  ∃ A n c l A' n' c' m, xv = .slice A n c ∧ yv = .slice A' n' c' ∧ OwnU wr W0.heap.size A n c (u32s l) ∧ l.length = n ∧ Dig W l ∧ n ≤ N ∧ OwnU wr W0.heap.size A' n' c' (u32s m) ∧ m.length = n' ∧ Dig W m ∧ Nrm m ∧ n' ≤ N ∧
    Nat.gcd (nv W l) (nv W m) = G ∧ nv W m ≤ g ∧ Below W0.heap.size W0 wr
theorem GRel.next {W0 w2 w3 : World} {G N g : Nat} {A' A1 : Option Addr} {n' c' n1 c1 : Nat} {l m o : List Nat} (ho : OwnU w2 W0.heap.size A' n' c' (u32s m)) (hm : m.length = n') (hd : Dig W m) (hnn : n' ≤ N) (hnz : nv W m ≠ 0) (hG : Nat.gcd (nv W l) (nv W m) = G) (hg : nv W m ≤ g)
    (hb2 : Below W0.heap.size W0 w2) (hb : Below w2.heap.size w2 w3) (h1 : OwnU w3 w2.heap.size A1 n1 c1 (u32s o)) (h2 : o.length = n1) (h3 : Dig W o) (h4 : nv W o = nv W l % nv W m) :
    GRel W0 G N (g - 1) (.slice A' n' c') (.slice A1 (tlen o) c1) w3 ∧ g - 1 < g := by
  have hlt : nv W o < nv W m := by rw [h4]; exact Nat.mod_lt _ (by omega)
  have hz := hb2.size
  refine ⟨⟨A', n', c', m, A1, tlen o, c1, tr o, rfl, rfl, Own.below ho hb (Nat.le_refl _), hm, hd, hnn, ?_, tr_length o, h3.tr, tr_nrm o, ?_, ?_, ?_, hb2.trans (hb.mono hz)⟩, by omega⟩
  · have := Own.take (Own.mono h1 hz) (k := tlen o) (by rw [← h2]; exact tlen_le o)
    rwa [u32s_take] at this
  · have h5 := nv_lt hd
    rw [hm] at h5
    have h6 := nrm_len (l := tr o) (tr_nrm o) (k := n') (by rw [nv_tr]; exact Nat.lt_trans hlt h5)
    rw [tr_length] at h6
    omega
  · rw [nv_tr, h4, ← hG, Nat.gcd_comm (nv W l), Nat.gcd_rec (nv W m) (nv W l), Nat.gcd_comm]
  · rw [nv_tr]; omega

set_option maxRecDepth 100000 in
set_option maxHeartbeats 2000000 in
theorem Gcd_any (na nb : Bool) {B B' : Nat} {A A' : Option Addr} {l m : List Nat} {n c n' c' : Nat} {w : World} (hs : SlU w B A n c l) (ht : SlU w B' A' n' c' m) (hn : n ≤ 67108000) (hn' : n' ≤ 67108000) (hB : B ≤ w.heap.size) (hB' : B' ≤ w.heap.size) :
    Calls Try.prog 53 #[.agg #[.bool na, .slice A n c], .agg #[.bool nb, .slice A' n' c']] w (PostC w (Nat.gcd (nv W l) (nv W m) : Int) (err (lng l || lng m))) := by
  have hl1 := hs.len
  have hl2 := ht.len
  have hl3 := tlen_le l
  have hl4 := tlen_le m
  have HL := Lib.hid (W2_long (na := na) (nb := nb) hs ht (by omega) (by omega) hB hB')
  have HW := Lib.hid (W2_below w na nb A A' n c n' c')
  have HK := Lib.hid (fun C w2 (hb : Below C (W2 w na nb A A' n c n' c') w2) hC => W2_cells hb hC)
  have HT1 := Lib.hid (fun w1 (hb : Below w.heap.size w w1) => trim_any (hs.below (C := w.heap.size) hb hB))
  have HT2 := Lib.hid (fun w1 (hb : Below w.heap.size w w1) => trim_any (ht.below (C := w.heap.size) hb hB'))
  have HO1 := Lib.hid (fun w1 (hb : Below w.heap.size w w1) => own_any ((hs.tr).below (C := w.heap.size) hb hB) (by omega) (Nat.le_trans hB hb.size))
  have HO2 := Lib.hid (fun w1 (hb : Below w.heap.size w w1) => own_any ((ht.tr).below (C := w.heap.size) hb hB') (by omega) (Nat.le_trans hB' hb.size))
  have HD1 := Lib.hid (And.intro hs.dig.tr (And.intro ht.dig.tr (tr_nrm m)))
  have HN := Lib.hid (And.intro (tr_length l) (And.intro (tr_length m) (And.intro (show tlen l ≤ 67108000 by omega) (show tlen m ≤ 67108000 by omega))))
  have e1 := nv_tr W l
  have e2 := nv_tr W m
  rw [← e1, ← e2]
  generalize tr l = l2 at *
  generalize tr m = m2 at *
  generalize tlen l = tl at *
  generalize tlen m = tm at *
  generalize hG : Nat.gcd (nv W l2) (nv W m2) = G
  have HG := Lib.hid hG
  clear hs ht hn hn' hB hB' hl1 hl2 hl3 hl4 e1 e2 hG
  cases hb : (lng l || lng m)
  · rw [hb] at HL
    clear hb
    go_enter Try.func53, Try.ntmps53
    go_wp2_with fail
    refine HL.out.mono ?_
    rintro ex w3 ⟨rfl, hb3⟩
    obtain ⟨⟨q0, q1⟩, ⟨q2, q3⟩, r0, r1, r2, r3⟩ := HK.out _ _ hb3 (by first | omega | (simp; done) | (simp; omega))
    have HB3 := Lib.hid (HW.out.trans (hb3.mono (B' := w.heap.size) (by first | omega | (simp; done) | (simp; omega))))
    have H3 := Lib.hid hb3
    have hz3 := hb3.size
    simp at hz3
    clear hb3 r0 r1 r2 r3
    have HSS := Lib.hid (fun w' (hb : Below w3.heap.size w3 w') => And.intro (And.intro ((hb.cell (p := ⟨w.heap.size, 0, none⟩) (by simp; omega)).trans q0) ((hb.cell (p := ⟨w.heap.size, 1, none⟩) (by simp; omega)).trans q1)) (And.intro ((hb.cell (p := ⟨w.heap.size + 1, 0, none⟩) (by simp; omega)).trans q2) ((hb.cell (p := ⟨w.heap.size + 1, 1, none⟩) (by simp; omega)).trans q3)))
    go_upto_region 3 with fail
    go_region_held3 (fun w' => (w'.cell? ⟨w.heap.size, 0, none⟩ = some (.bool na) ∧ w'.cell? ⟨w.heap.size, 1, none⟩ = some (.slice A n c)) ∧ (w'.cell? ⟨w.heap.size + 1, 0, none⟩ = some (.bool nb) ∧ w'.cell? ⟨w.heap.size + 1, 1, none⟩ = some (.slice A' n' c')))
      (first | (go_keep; done) | exact HSS.out _ k5 | exact HSS.out _ k4 | exact HSS.out _ (Below.refl w3.heap.size w3).drew)
      (first
        | (go_at_call 80; (with_reducible refine (HT1.out _ ?_).mono ?_); exact HB3.out.drew; rintro e w' ⟨rfl, rfl⟩)
        | (go_at_call 79; (with_reducible refine (HO1.out _ ?_).mono ?_); exact HB3.out.drew; rintro e w4 ⟨A4, n4, c4, rfl, ho4, hl4, hb4⟩; have k4 : Below w3.heap.size w3 w4 := (Below.refl w3.heap.size w3).drew.trans hb4; have kz4 := k4.size)
        | (go_at_call 80; (with_reducible refine (HT2.out _ ?_).mono ?_); exact HB3.out.trans (k4.mono (by omega)); rintro e w' ⟨rfl, rfl⟩)
        | (go_at_call 79; (with_reducible refine (HO2.out _ ?_).mono ?_); exact HB3.out.trans (k4.mono (by omega)); rintro e w5 ⟨A5, n5, c5, rfl, ho5, hl5, hb5⟩; have k5 : Below w3.heap.size w3 w5 := k4.trans (hb5.mono kz4); have kz5 := k5.size))
    have HS0 := Lib.hid (show GRel w3 G 67108000 (nv W m2) (.slice A4 n4 c4) (.slice A5 n5 c5) w5 from
      ⟨A4, n4, c4, l2, A5, n5, c5, m2, rfl, rfl, Own.below ho4 hb5 (Nat.le_refl _), hl4, HD1.out.1, by rw [← hl4, HN.out.1]; exact HN.out.2.2.1, Own.mono ho5 kz4, hl5, HD1.out.2.1, HD1.out.2.2, by rw [← hl5, HN.out.2.1]; exact HN.out.2.2.2, HG.out, Nat.le_refl _, k5⟩)
    clear ho4 ho5 hl4 hl5 hb4 hb5 k4 k5 q0 q1 q2 q3
    go_wp2_with fail
    go_loopg [6, 7] (nv W m2) (fun g xv yv wr => GRel w3 G 67108000 g xv yv wr)
    case atStart => exact HS0.out
    case round =>
      obtain ⟨X, nx, cx, lx, Y, ny, cy, ly, rfl, rfl, hox, hlx, hdx, hnx, hoy, hly, hdy, hry, hny, hgc, hgk, hbw⟩ := hrel
      have hzw := hbw.size
      by_cases hy0 : ny = 0
      · subst hy0
        have hly0 : ly = [] := List.length_eq_zero_iff.1 hly
        subst hly0
        have HX := Lib.hid hox
        have HZ := Lib.hid (show ival false lx = (G : Int) by rw [← hgc, show nv W ([] : List Nat) = 0 from rfl, Nat.gcd_zero_right]; rfl)
        have HLD := Lib.hid (And.intro hlx hdx)
        have HBW := Lib.hid hbw
        clear hox hoy hlx hdx hly hdy hry hgc hgk hbw
        go_wp2_with fail
        refine (laid_own false HX.out HLD.out.1 HLD.out.2 HZ.out).mono ?_
        rintro ex w7 ⟨v, rfl, ⟨A2, c2, rfl, ho2⟩, hb7⟩
        have hb37 := HBW.out.trans (hb7.mono HBW.out.size)
        obtain ⟨_, _, r0, r1, r2, r3⟩ := HK.out _ _ (H3.out.trans (hb37.mono (by simp; omega))) (by first | omega | (simp; done) | (simp; omega))
        have HR9 := Lib.hid (fun u u' => ResI.stored (w := w) (g := w.heap.size + 1 + 1) (u := u) (u' := u') ⟨A2, c2, rfl, ho2⟩ (HB3.out.trans (hb37.mono (B' := w.heap.size) (by omega))) (by omega) (by omega))
        clear ho2 hb7 hb37
        go_wp2
        exact bodyPost_ret (v := .tuple #[.agg #[.bool (decide ((G : Int) < 0)), .slice A2 (digs W (G : Int).natAbs).length c2], .int .i64 0]) (by simp [results, Try.results53, go_sem, r0, r1]) rfl
          (PostC.ok rfl (HR9.out _ _).1 (HR9.out _ _).2)
      · have hnz : nv W ly ≠ 0 := by
          have := nv_pos (b := W) (by decide) hry (by intro e; rw [e] at hly; exact hy0 hly.symm)
          omega
        have hd0 : decide ((0 : Int) < (ny : Int)) = true := decide_eq_true (by omega)
        have hd1 : decide (0 < ny) = true := decide_eq_true (by omega)
        have HDV := Lib.hid (divide_any (Own.sl hox hdx hlx) (Own.sl hoy hdy hly) (by omega) (Nat.le_refl _) (Nat.le_refl _) hnz)
        have HNx := Lib.hid (fun w3' A1 n1 c1 o hb h1 h2 h3 h4 => GRel.next (N := 67108000) (l := lx) hoy hly hdy hny hnz hgc hgk hbw (w3 := w3') (A1 := A1) (n1 := n1) (c1 := c1) (o := o) hb h1 h2 h3 h4)
        clear hox hlx hdx hnx hoy hly hdy hry hny hgc hgk hbw hnz
        go_wp2_with fail
        refine HDV.out.mono ?_
        rintro ex w6 ⟨A1, A2, n1, c1, n2, c2, o1, o2, rfl, _, _, _, _, _, ho2, hol2, hod2, hov2, _, _, hb6⟩
        have HT := Lib.hid (trim_any (Own.sl ho2 hod2 hol2))
        have HQ := Lib.hid (HNx.out w6 A2 n2 c2 o2 hb6 ho2 hol2 hod2 hov2)
        clear ho2 hol2 hod2 hov2 hb6
        go_wp2_with (go_at_call 80; (with_reducible refine HT.out.mono ?_); rintro e w' ⟨rfl, rfl⟩)
        go_roundg (gk - 1)
        case measure => exact HQ.out.2
        case rel => exact HQ.out.1
  · rw [hb] at HL
    clear hb
    go_enter Try.func53, Try.ntmps53
    go_wp2_with fail
    refine HL.out.mono ?_
    rintro ex w3 ⟨rfl, hb3⟩
    obtain ⟨⟨q0, q1⟩, ⟨q2, q3⟩, r0, r1, r2, r3⟩ := HK.out _ _ hb3 (by simp)
    have HB3 := Lib.hid (HW.out.trans (hb3.mono (B' := w.heap.size) (by first | omega | (simp; done) | (simp; omega))))
    clear hb3
    go_wp2_with fail
    exact bodyPost_ret (v := .tuple #[zeroV, .int .i64 10]) (by simp [results, Try.results53, go_sem, r0, r1]) rfl
      (PostC.bad (by simp [err]) (by decide) ((HB3.out.setCell (by simp; omega) _).setCell (by simp; omega) _))
end Go.Proofs.Ytggdmhkdmkldoaa

namespace Go.Proofs.Ytggdmhkdmkldoaa
open Go.RowKit Hb

/-- append, and that no other block is touched -/
theorem wp_append_far {o : Oper} {a : Act} {K : Act → World → Prop} {Q : Exit → Act → World → Prop} {w : World} (s x : Operand)
    (ho : o.op = .call { callee := .builtin .append, args := #[s, x], argTypes := #[22, 22] })
    {base B : Nat} {A A0 : Option Addr} {n0 c0 m c : Nat} {l0 l : List Nat} (hs : a.eval s = .slice A0 n0 c0) (hown : OwnU w base A0 n0 c0 (u32s l0)) (hx : a.eval x = .slice A m c) (hA : A = none → c = 0) (hrd : SlU w B A m c l)
    (hm : n0 + m ≤ 67108864) (hbase : base ≤ w.heap.size)
    (h : ∀ A' c' w', OwnU w' base A' (n0 + m) c' (u32s (l0 ++ l)) → Below base w w' → (∀ g, g < w.heap.size → A0 ≠ some ⟨g, 0, none⟩ → w'.heap[g]? = w.heap[g]?) → (∀ g, A' = some ⟨g, 0, none⟩ → A0 = some ⟨g, 0, none⟩ ∨ w.heap.size ≤ g) → K (a.put o.dst (.slice A' (n0 + m) c')) w') : o.wp Try.prog a w K Q := by
  obtain ⟨i0, hi, hz0, hz1, hz2⟩ := info_parts infoU
  cases A with
  | none =>
    have hm0 : m = 0 := by
      rcases Nat.eq_zero_or_pos m with h0 | h0
      · exact h0
      · obtain ⟨b, o, h1, _⟩ := hrd.at_ h0; cases h1
    have hc0 := hA rfl
    subst hm0; subst hc0
    have hl : l = [] := List.length_eq_zero_iff.1 hrd.len
    subst hl
    have hrun := run_append_owned_none (P := Try.prog) (w := w) base 22 o.type 48 i0 1 Try.underlying22 hi _ n0 (u32s l0) hown
    unfold Oper.wp
    simp [execOp, ho, resolve, invoke, builtin, hs, hx, hrun, Result.andThen]
    exact h A0 c0 w (by rw [List.append_nil]; exact hown) (Below.refl _ _) (fun _ _ _ => rfl) (fun _ e => .inl e)
  | some ad =>
    have hnews : ∀ j u, (u32s l)[j]? = some u → w.cell? (ad.add j) = some u := by
      intro j u hj
      have hj2 : j < m := by
        rw [← hrd.len, ← u32s_length l]
        exact (List.getElem?_eq_some_iff.1 hj).1
      obtain ⟨b, o', h1, _, hc⟩ := hrd.at_ (by omega)
      obtain rfl := Option.some.inj h1
      rw [addr_add, hc j hj2, ← u32s_get (by rw [hrd.len]; exact hj2), hj]
    obtain ⟨v', w', hr, hown', hg, _, hat⟩ := run_append_own_at (P := Try.prog) w base 22 o.type 48 i0 (.int .u32 0) 1 4 Try.underlying22 hi hz0 hz1 hz2 rfl (by decide) _ n0 (u32s l0) hown ad m c (u32s l) (by rw [u32s_length, hrd.len]; simp) hnews (u32s_one l) (by simp [maxLen]; omega) (by omega) hbase
    have hf : ∃ A' c', v' = .slice A' (n0 + m) c' := by
      rcases hown'.2 with ⟨h1, h2⟩ | ⟨g', cap, cur, h1, _⟩
      · exact ⟨none, 0, by rw [h1, h2]⟩
      · exact ⟨_, _, h1⟩
    obtain ⟨A', c', rfl⟩ := hf
    unfold Oper.wp execOp
    simp only [ho, resolve, invoke, builtin, Sem.run_bind, Sem.run_pure, Result.andThen_ok, List.map_toArray, List.map_cons, List.map_nil, hs, hx, hr]
    refine h A' c' w' (by have h3 := hown'; rw [u32s_append] at h3; exact h3) ⟨hg.os, hg.tape, hg.output, hg.size, fun j hj => hg.block j (by omega) ?_⟩ (fun j hj hne => hg.block j hj ?_) (fun g e => ?_)
    · rcases Own.form hown with ⟨rfl, _⟩ | ⟨g', rfl, h4, _⟩
      · simp [Value.ownBlock]
      · simp [Value.ownBlock]; omega
    · rcases Own.form hown with ⟨rfl, _⟩ | ⟨g', rfl, h4, _⟩
      · simp [Value.ownBlock]
      · simp [Value.ownBlock]
        rintro rfl
        exact hne rfl
    · subst e
      rcases Own.form hown with ⟨rfl, _⟩ | ⟨g', rfl, h4, _⟩
      · simp [Value.ownBlock] at hat
        exact .inr (by omega)
      · simp [Value.ownBlock] at hat
        rcases hat with rfl | h5
        · exact .inl rfl
        · exact .inr (by omega)
theorem Own.same {t : TypeId} {w w' : World} {B g n c : Nat} {xs : List Value} (h : Own t w B (some ⟨g, 0, none⟩) n c xs) (he : w'.heap[g]? = w.heap[g]?) : Own t w' B (some ⟨g, 0, none⟩) n c xs := by
  refine ⟨h.1, ?_⟩
  rcases h.2 with ⟨h1, _⟩ | ⟨g', cap, cur, h1, h2, h3, h4⟩
  · cases h1
  · have h5 := h1
    injection h5 with a b cc
    injection a with a
    injection a with a
    subst a
    exact .inr ⟨g, cap, cur, h1, h2, he.trans h3, h4⟩
theorem wrap_u32 (p : Nat) (h : p < 4294967296) : IntKind.u32.wrap (p : Int) = (p : Int) := IntWalk.u32_in _ (by omega)
theorem Bx.same {w w' : World} {g : Nat} {x y : Value} (h : Bx w g x y) (he : w'.heap[g]? = w.heap[g]?) : Bx w' g x y := he.trans h
theorem own_one (w : World) {B : Nat} (a : Nat) (hB : B ≤ w.heap.size) : OwnU (w.alloc (.cells #[.int .u32 (a : Int)] 48)) B (some ⟨w.heap.size, 0, none⟩) 1 1 (u32s [a]) :=
  Own.of_block (xs := u32s [a]) (by exact heap_alloc_new w _) hB (by simp [u32s, maxLen])
theorem own_zeros (w : World) {B : Nat} (n : Nat) (hB : B ≤ w.heap.size) (hm : n ≤ maxLen) : OwnU (w.alloc (.cells (madeCells #[.int .u32 0] n) 48)) B (some ⟨w.heap.size, 0, none⟩) n n (u32s (List.replicate n 0)) := by
  have := Own.made w (.int .u32 0) n 48 hB hm
  rwa [u32s_zeros] at this
section
variable {P : Program} {ops : Array Oper} {Q : Exit → Act → World → Prop} {md : Region.Mode} {S : World → Prop} {st : Nat}
/-- Three may come up. -/
theorem wpAnyW_three {i i2 i3 : Nat} {o o2 o3 : Oper} {fuel : Nat} {listed : Array Bool} {a : Act} {w : World} (hr : Region.ready md ops listed = [i, i2, i3]) (ho : ops[i]? = some o) (ho2 : ops[i2]? = some o2) (ho3 : ops[i3]? = some o3)
    (h : ∀ K' : Act → World → Prop, Shut (∀ a w, ((listed.setIfInBounds i true).getD st true = false → S w) → wpAnyW P md ops Q S st fuel (listed.setIfInBounds i true) a w → K' a w) → if Region.wanted o (yielded ops a.tmps) = true then Oper.wp P o a w K' Q else K' (a.put o.dst undef) w)
    (h2 : ∀ K' : Act → World → Prop, Shut (∀ a w, ((listed.setIfInBounds i2 true).getD st true = false → S w) → wpAnyW P md ops Q S st fuel (listed.setIfInBounds i2 true) a w → K' a w) → if Region.wanted o2 (yielded ops a.tmps) = true then Oper.wp P o2 a w K' Q else K' (a.put o2.dst undef) w)
    (h3 : ∀ K' : Act → World → Prop, Shut (∀ a w, ((listed.setIfInBounds i3 true).getD st true = false → S w) → wpAnyW P md ops Q S st fuel (listed.setIfInBounds i3 true) a w → K' a w) → if Region.wanted o3 (yielded ops a.tmps) = true then Oper.wp P o3 a w K' Q else K' (a.put o3.dst undef) w) :
    wpAnyW P md ops Q S st (fuel + 1) listed a w :=
  ⟨fun h0 => absurd (hr ▸ h0) (by simp), fun j hj => by
    rw [hr] at hj
    rcases List.mem_cons.1 hj with rfl | hj
    · exact wpOp_step ho (fun K' hK => h K' (fun a w hS hW => hK a w ⟨hS, hW⟩))
    · rcases List.mem_cons.1 hj with rfl | hj
      · exact wpOp_step ho2 (fun K' hK => h2 K' (fun a w hS hW => hK a w ⟨hS, hW⟩))
      · obtain rfl : j = i3 := by simpa using hj
        exact wpOp_step ho3 (fun K' hK => h3 K' (fun a w hS hW => hK a w ⟨hS, hW⟩))⟩
end
end Go.Proofs.Ytggdmhkdmkldoaa
