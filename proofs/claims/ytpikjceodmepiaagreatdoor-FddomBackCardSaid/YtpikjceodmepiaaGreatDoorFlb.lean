import Derived.Test.YtpikjceodmepiaaGreatDoorRegb
import Derived.Below
set_option linter.unusedVariables false
set_option linter.unusedSimpArgs false
set_option linter.unusedVariables false
set_option linter.unusedSimpArgs false
namespace Go.Proofs.YtpikjceodmepiaaGreatDoor
open Go Go.RowKit
/-! ### floats: allocations that wait for nothing and come up somewhere among the others. Between two of the others anything may have been made: a landing gives the floats' blocks. -/
section
variable {P : Program} {md : Region.Mode} {ops : Array Oper} {Q : Exit → Act → World → Prop} {S : World → Prop} {st : Nat}

def flAll : List Nat → Array Bool → Array Bool
  | [], l => l
  | i :: E, l => (flAll E l).setIfInBounds i true
def flL (D : Nat → Option Nat) : List Nat → Array Bool → Array Bool
  | [], l => l
  | i :: E, l => if (D i).isSome then (flL D E l).setIfInBounds i true else flL D E l
def flA (ops : Array Oper) (D : Nat → Option Nat) : List Nat → Act → Act
  | [], a => a
  | i :: E, a => match D i with
    | some H => (flA ops D E a).put ((ops[i]?).bind (·.dst)) (.pointer (some ⟨H, 0, none⟩))
    | none => flA ops D E a
/-- what may come up while a float is still out -/
def pend (md : Region.Mode) (ops : Array Oper) (listed : Array Bool) (E : List Nat) : List Nat :=
  (List.range ops.size).filter fun i => !E.contains i && !listed.getD i true && ((ops[i]?).map fun o => (o.after.all fun e => !Region.binds md e || listed.getD e.on false || E.contains e.on) && E.any fun f => o.after.all fun e => !Region.binds md e || e.on != f).getD false
/-- neither looks at the floats' slots nor writes them -/
def farFrom (ops : Array Oper) (E : List Nat) (o : Oper) : Bool := E.all fun f => match (ops[f]?).bind (·.dst) with
  | some d => !(o.looksAt ops).contains d && o.dst != some d
  | none => true
/-- the floats are operations that wait for nothing, with slots of their own -/
def floatsB (md : Region.Mode) (ops : Array Oper) : List Nat → Bool
  | [] => true
  | i :: E => !E.contains i && (match ops[i]? with
    | some o => o.guard.isNone && (o.after.all fun e => !Region.binds md e) && (match o.dst with
      | some d => E.all fun j => (ops[j]?).bind (·.dst) != some d
      | none => false)
    | none => false) && floatsB md ops E
def FloatRun (P : Program) (ops : Array Oper) (E : List Nat) (obj : Nat → Obj) : Prop := ∀ i ∈ E, ∀ o, ops[i]? = some o → ∀ (a : Act) (w : World), (execOp a.eval o).run P w = .ok (.value (.pointer (some ⟨w.heap.size, 0, none⟩))) (w.alloc (obj i))

theorem flL_getD (D : Nat → Option Nat) {j : Nat} {d : Bool} {l : Array Bool} : ∀ E : List Nat, ((E.contains j && (D j).isSome) = false) → (flL D E l).getD j d = l.getD j d
  | [], _ => rfl
  | i :: E, h => by
    have h' : (E.contains j && (D j).isSome) = false := by
      rw [List.contains_cons] at h
      cases hc : (D j).isSome
      · simp
      · rw [hc] at h; simp at h; simp [h.2]
    unfold flL
    split
    · rename_i hs
      have hne : i ≠ j := fun e => by subst e; simp [hs] at h
      rw [getD_set_ne d hne]; exact flL_getD D E h'
    · exact flL_getD D E h'
theorem flL_or (D : Nat → Option Nat) {j : Nat} {l : Array Bool} : ∀ E : List Nat, (flL D E l).getD j false = true → l.getD j false = true ∨ (j ∈ E ∧ (D j).isSome = true)
  | [], h => .inl h
  | i :: E, h => by
    unfold flL at h
    split at h
    · rename_i hs
      by_cases hij : i = j
      · subst hij; exact .inr ⟨List.mem_cons_self, hs⟩
      · rw [getD_set_ne false hij] at h
        exact (flL_or D E h).imp id fun h => ⟨List.mem_cons_of_mem _ h.1, h.2⟩
    · exact (flL_or D E h).imp id fun h => ⟨List.mem_cons_of_mem _ h.1, h.2⟩
theorem flL_set (D : Nat → Option Nat) {j : Nat} {l : Array Bool} : ∀ E : List Nat, j ∉ E → flL D E (l.setIfInBounds j true) = (flL D E l).setIfInBounds j true
  | [], _ => rfl
  | i :: E, h => by
    have h1 : j ∉ E := fun h' => h (List.mem_cons_of_mem _ h')
    have h2 : i ≠ j := fun e => h (e ▸ List.mem_cons_self)
    unfold flL
    split
    · rw [flL_set D E h1, Array.setIfInBounds_comm _ _ (Ne.symm h2)]
    · exact flL_set D E h1
theorem flAll_set {j : Nat} {l : Array Bool} : ∀ E : List Nat, j ∉ E → flAll E (l.setIfInBounds j true) = (flAll E l).setIfInBounds j true
  | [], _ => rfl
  | i :: E, h => by
    have h1 : j ∉ E := fun h' => h (List.mem_cons_of_mem _ h')
    have h2 : i ≠ j := fun e => h (e ▸ List.mem_cons_self)
    unfold flAll
    rw [flAll_set E h1, Array.setIfInBounds_comm _ _ (Ne.symm h2)]
theorem flL_all (D : Nat → Option Nat) {l : Array Bool} : ∀ E : List Nat, (∀ i ∈ E, (D i).isSome = true) → flL D E l = flAll E l
  | [], _ => rfl
  | i :: E, h => by
    unfold flL flAll
    rw [if_pos (h i List.mem_cons_self), flL_all D E fun j hj => h j (List.mem_cons_of_mem _ hj)]
def upd (D : Nat → Option Nat) (i H : Nat) : Nat → Option Nat := fun j => if j = i then some H else D j
theorem flL_same {D D' : Nat → Option Nat} {l : Array Bool} : ∀ E : List Nat, (∀ j ∈ E, D j = D' j) → flL D E l = flL D' E l
  | [], _ => rfl
  | i :: E, h => by
    unfold flL
    rw [h i List.mem_cons_self, flL_same E fun j hj => h j (List.mem_cons_of_mem _ hj)]
theorem flA_same {D D' : Nat → Option Nat} {a : Act} : ∀ E : List Nat, (∀ j ∈ E, D j = D' j) → flA ops D E a = flA ops D' E a
  | [], _ => rfl
  | i :: E, h => by
    unfold flA
    rw [h i List.mem_cons_self, flA_same E fun j hj => h j (List.mem_cons_of_mem _ hj)]
theorem flL_upd {D : Nat → Option Nat} {i H : Nat} {l : Array Bool} : ∀ E : List Nat, floatsB md ops E = true → i ∈ E → D i = none → flL (upd D i H) E l = (flL D E l).setIfInBounds i true
  | [], _, hi, _ => by cases hi
  | k :: E, hf, hi, hn => by
    simp only [floatsB, Bool.and_eq_true, Bool.not_eq_true'] at hf
    have hk : k ∉ E := by simpa using hf.1.1
    by_cases hki : k = i
    · subst hki
      unfold flL
      rw [hn]
      simp only [upd, if_pos, Option.isSome_some, Option.isSome_none, Bool.false_eq_true, if_false]
      rw [flL_same (D := upd D k H) (D' := D) E fun j hj => if_neg (fun e : j = k => hk (by rw [← e]; exact hj))]
    · have hi' : i ∈ E := (List.mem_cons.1 hi).resolve_left (Ne.symm hki)
      unfold flL
      have : upd D i H k = D k := if_neg hki
      rw [this, flL_upd E hf.2 hi' hn]
      split
      · rw [Array.setIfInBounds_comm _ _ (Ne.symm hki)]
      · rfl
theorem floatsB_dst {i : Nat} : ∀ E : List Nat, floatsB md ops E = true → i ∈ E → ∃ o d, ops[i]? = some o ∧ o.guard = none ∧ o.dst = some d ∧ (∀ e ∈ o.after, Region.binds md e = false)
  | [], _, hi => by cases hi
  | k :: E, hf, hi => by
    simp only [floatsB, Bool.and_eq_true] at hf
    rcases List.mem_cons.1 hi with rfl | hi
    · have h := hf.1.2
      cases ho : ops[i]? with
      | none => rw [ho] at h; simp at h
      | some o =>
        rw [ho] at h
        simp only [Bool.and_eq_true] at h
        cases hd : o.dst with
        | none => rw [hd] at h; simp at h
        | some d => exact ⟨o, d, rfl, by simpa using h.1.1, hd, fun e he => by have := Array.all_eq_true'.1 h.1.2 e he; simpa using this⟩
    · exact floatsB_dst E hf.2 hi
theorem flA_upd {D : Nat → Option Nat} {i H : Nat} {a : Act} : ∀ E : List Nat, floatsB md ops E = true → i ∈ E → D i = none → flA ops (upd D i H) E a = (flA ops D E a).put ((ops[i]?).bind (·.dst)) (.pointer (some ⟨H, 0, none⟩))
  | [], _, hi, _ => by cases hi
  | k :: E, hf, hi, hn => by
    simp only [floatsB, Bool.and_eq_true, Bool.not_eq_true'] at hf
    have hk : k ∉ E := by simpa using hf.1.1
    by_cases hki : k = i
    · subst hki
      unfold flA
      rw [hn]
      have : upd D k H k = some H := if_pos rfl
      rw [this]
      simp only
      rw [flA_same (D := upd D k H) (D' := D) E fun j hj => if_neg (fun e : j = k => hk (by rw [← e]; exact hj))]
    · have hi' : i ∈ E := (List.mem_cons.1 hi).resolve_left (Ne.symm hki)
      unfold flA
      have : upd D i H k = D k := if_neg hki
      rw [this, flA_upd E hf.2 hi' hn]
      split
      · rw [Act.put_comm]
        intro d hd he
        have h := hf.1.2
        cases ho : ops[k]? with
        | none => rw [ho] at h; simp at h
        | some o =>
          rw [ho] at h he
          simp only [Bool.and_eq_true] at h
          have he' : o.dst = some d := he
          rw [he'] at h
          have := List.all_eq_true.1 h.2 i hi'
          rw [hd] at this
          simp at this
      · rfl
theorem wpOp_under {j : Nat} {oj : Oper} {d : Tmp} {v : Value} (hj : ops[j]? = some oj) (hsj : ∀ cs b, oj.op ≠ .select cs b) (hlook : d ∉ oj.looksAt ops) (hdst : oj.dst ≠ some d)
    (hQ : ∀ c (a : Act) d v w, Q (.panic c) a w → Q (.panic c) (a.put (some d) v) w) {K : Act → World → Prop} {a : Act} {w : World} (h : wpOp P ops Q j (fun a' w' => K (a'.put (some d) v) w') a w) :
    wpOp P ops Q j K (a.put (some d) v) w := by
  have h1 : ∀ d', some d = some d' → d' ∉ oj.looksAt ops := fun d' e => by injection e with e; exact e ▸ hlook
  have h2 : ∀ d', oj.dst = some d' → some d ≠ some d' := fun d' e e2 => hdst (e.trans e2.symm)
  unfold wpOp at *
  simp only [hj] at *
  rw [wanted_put oj a (some d) v h1]
  split
  · rename_i hw
    simp only [hw, if_true] at h
    rcases h with h | ⟨hasks, hlets⟩
    case inr => exact .inr ⟨by unfold Oper.asks at *; rw [execOp_put oj hsj a (some d) v h1]; exact hasks, hlets⟩
    refine .inl ?_
    unfold Oper.wp at *
    rw [execOp_put oj hsj a (some d) v h1]
    generalize (execOp a.eval oj).run P w = r at *
    cases r with
    | ok n w' =>
      cases n <;> simp only [Oper.upon] at h ⊢
      case value u => rw [← Act.put_comm a u v h2]; exact h
      case skip => rw [← Act.put_comm a undef v h2]; exact h
      case defer dd =>
        rw [Act.put_defers, ← Act.put_comm _ undef v h2]
        exact h
      case enter f args =>
        refine Calls.mono h fun e w'' he => ?_
        cases e with
        | returned u =>
          show K ((a.put (some d) v).put oj.dst u) w''
          rw [← Act.put_comm a u v h2]; exact he
        | panicked c => exact hQ _ _ _ _ _ he
        | outgrown => exact he
      case row row args => exact Rows.mono h fun u w'' he => by rw [← Act.put_comm a u v h2]; exact he
    | halt x w' =>
      cases x <;> simp only [Oper.upon] at h ⊢
      case panic u => exact hQ _ _ _ _ _ h
  · rename_i hw
    simp only [hw] at h
    rw [← Act.put_comm a undef v h2]; exact h
theorem farFrom_spec {o : Oper} : ∀ E : List Nat, farFrom ops E o = true → ∀ f ∈ E, ∀ d, (ops[f]?).bind (·.dst) = some d → d ∉ o.looksAt ops ∧ o.dst ≠ some d := fun E h f hf d hd => by
  have h1 := List.all_eq_true.1 h f hf
  rw [hd] at h1
  simpa using h1
theorem wpOp_far {j : Nat} {oj : Oper} (hj : ops[j]? = some oj) (hsj : ∀ cs b, oj.op ≠ .select cs b) (hQ : ∀ c (a : Act) d v w, Q (.panic c) a w → Q (.panic c) (a.put (some d) v) w) (D : Nat → Option Nat) :
    ∀ (E : List Nat), floatsB md ops E = true → farFrom ops E oj = true → ∀ {K : Act → World → Prop} {a : Act} {w : World}, wpOp P ops Q j (fun a' w' => K (flA ops D E a') w') a w → wpOp P ops Q j K (flA ops D E a) w
  | [], _, _, _, _, _, h => h
  | i :: E, hf, hfar, K, a, w, h => by
    have hff := hf
    have hfar' := farFrom_spec _ hfar i List.mem_cons_self
    simp only [floatsB, Bool.and_eq_true] at hf
    simp only [farFrom, List.all_cons, Bool.and_eq_true] at hfar
    obtain ⟨o, d, ho, _, hd, _⟩ := floatsB_dst _ hff List.mem_cons_self
    have hod : (ops[i]?).bind (·.dst) = some d := by rw [ho]; exact hd
    unfold flA at h ⊢
    cases hD : D i with
    | none =>
      simp only [hD] at h ⊢
      exact wpOp_far hj hsj hQ D E hf.2 hfar.2 h
    | some H =>
      simp only [hD, hod] at h ⊢
      exact wpOp_under hj hsj (hfar' d hod).1 (hfar' d hod).2 hQ (wpOp_far hj hsj hQ D E hf.2 hfar.2 (K := fun a' w' => K (a'.put (some d) _) w') h)
/-- what is known of the floats when all of them have come up -/
def FlOk (E : List Nat) (obj : Nat → Obj) (D : Nat → Option Nat) (w : World) (G : Nat → Prop) : Prop :=
  (∀ i ∈ E, ∃ H, D i = some H ∧ w.heap[H]? = some (obj i) ∧ G H) ∧ ∀ i ∈ E, ∀ j ∈ E, i ≠ j → D i ≠ D j
def gapTo (G : Nat → Prop) (w w' : World) : Nat → Prop := fun b => G b ∨ (w.heap.size ≤ b ∧ b < w'.heap.size)
def wpAnyF (P : Program) (md : Region.Mode) (ops : Array Oper) (Q : Exit → Act → World → Prop) (S : World → Prop) (st : Nat) (E : List Nat) (obj : Nat → Obj) : Nat → Array Bool → Act → World → (Nat → Prop) → Prop
  | 0, listed, a, w, G => ∀ w', Below w.heap.size w w' → S w' →
    (∀ D, FlOk E obj D w' (gapTo G w w') → wpAnyW P md ops Q S st 0 (flL D E listed) (flA ops D E a) w') ∧ pend md ops listed E = []
  | fuel + 1, listed, a, w, G => ∀ w', Below w.heap.size w w' → S w' →
    (∀ D, FlOk E obj D w' (gapTo G w w') → wpAnyW P md ops Q S st (fuel + 1) (flL D E listed) (flA ops D E a) w') ∧
    ∀ i ∈ pend md ops listed E, i ∉ E ∧ ∃ o, ops[i]? = some o ∧ farFrom ops E o = true ∧ wpOp P ops Q i (fun a' w'' => Below w'.heap.size w' w'' ∧ S w'' ∧ wpAnyF P md ops Q S st E obj fuel (listed.setIfInBounds i true) a' w'' (gapTo G w w')) a w'
variable {E : List Nat} {obj : Nat → Obj}
theorem FlOk.more {D : Nat → Option Nat} {w : World} {G G' : Nat → Prop} (h : FlOk E obj D w G) (hG : ∀ b, G b → G' b) : FlOk E obj D w G' :=
  ⟨fun i hi => let ⟨H, h1, h2, h3⟩ := h.1 i hi; ⟨H, h1, h2, hG _ h3⟩, h.2⟩
theorem FlOk.below {D : Nat → Option Nat} {w w' : World} {G : Nat → Prop} (h : FlOk E obj D w G) (hb : Below w.heap.size w w') : FlOk E obj D w' G :=
  ⟨fun i hi => let ⟨H, h1, h2, h3⟩ := h.1 i hi; ⟨H, h1, (hb.block H (Array.getElem?_eq_some_iff.1 h2).1).trans h2, h3⟩, h.2⟩
theorem gapTo_step {G : Nat → Prop} {w w1 w2 : World} (h1 : w.heap.size ≤ w1.heap.size) (h2 : w1.heap.size ≤ w2.heap.size) (b : Nat) (h : gapTo G w w2 b) : gapTo (gapTo G w w1) w1 w2 b := by
  unfold gapTo at *
  rcases h with h | h
  · exact .inl (.inl h)
  · rcases Nat.lt_or_ge b w1.heap.size with h' | h'
    · exact .inl (.inr ⟨h.1, h'⟩)
    · exact .inr ⟨h', h.2⟩
theorem gapTo_back {G : Nat → Prop} {w w1 w2 : World} (h1 : w.heap.size ≤ w1.heap.size) (h2 : w1.heap.size ≤ w2.heap.size) (b : Nat) (h : gapTo (gapTo G w w1) w1 w2 b) : gapTo G w w2 b := by
  unfold gapTo at *
  rcases h with (h | h) | h
  · exact .inl h
  · exact .inr ⟨h.1, by omega⟩
  · exact .inr ⟨by omega, h.2⟩
theorem wpAnyF_gap : ∀ {fuel : Nat} {listed : Array Bool} {a : Act} {w : World} {G G' : Nat → Prop}, (∀ b, G' b → G b) → wpAnyF P md ops Q S st E obj fuel listed a w G → wpAnyF P md ops Q S st E obj fuel listed a w G'
  | 0, _, _, _, _, _, hG, h => fun w' hb hS => ⟨fun D hD => (h w' hb hS).1 D (hD.more fun b => Or.imp (hG b) id), (h w' hb hS).2⟩
  | fuel + 1, _, _, _, _, _, hG, h => fun w' hb hS => ⟨fun D hD => (h w' hb hS).1 D (hD.more fun b => Or.imp (hG b) id), fun i hi => let ⟨h1, o, h2, h3, h4⟩ := (h w' hb hS).2 i hi
      ⟨h1, o, h2, h3, wpOp_mono (fun a' w'' h => ⟨h.1, h.2.1, wpAnyF_gap (fun b => Or.imp (hG b) id) h.2.2⟩) h4⟩⟩
theorem wpAnyF_later {fuel : Nat} {listed : Array Bool} {a : Act} {w w1 : World} {G : Nat → Prop} (hb : Below w.heap.size w w1) (h : wpAnyF P md ops Q S st E obj fuel listed a w G) : wpAnyF P md ops Q S st E obj fuel listed a w1 (gapTo G w w1) := by
  cases fuel with
  | zero =>
    intro w' hb' hS
    have h := h w' (hb.trans (hb'.mono hb.size)) hS
    exact ⟨fun D hD => h.1 D (hD.more (gapTo_back hb.size hb'.size)), h.2⟩
  | succ fuel =>
    intro w' hb' hS
    have h := h w' (hb.trans (hb'.mono hb.size)) hS
    refine ⟨fun D hD => h.1 D (hD.more (gapTo_back hb.size hb'.size)), fun i hi => ?_⟩
    obtain ⟨h1, o, h2, h3, h4⟩ := h.2 i hi
    exact ⟨h1, o, h2, h3, wpOp_mono (fun a' w'' h => ⟨h.1, h.2.1, wpAnyF_gap (gapTo_back hb.size hb'.size) h.2.2⟩) h4⟩
theorem flL_done {D : Nat → Option Nat} {i : Nat} {l : Array Bool} : ∀ E : List Nat, i ∈ E → (D i).isSome = true → (flL D E l).getD i true = true
  | [], h, _ => by cases h
  | k :: E, h, hs => by
    have key : ∀ (l' : Array Bool), (l'.setIfInBounds i true).getD i true = true := fun l' => by
      rcases Nat.lt_or_ge i l'.size with h' | h'
      · simp [h']
      · simp [Array.getElem?_eq_none (show (l'.setIfInBounds i true).size ≤ i by simpa using h')]
    unfold flL
    by_cases hk : k = i
    · subst hk
      rw [if_pos hs]; exact key _
    · have h1 : i ∈ E := (List.mem_cons.1 h).resolve_left (Ne.symm hk)
      split
      · rw [getD_set_ne true hk]; exact flL_done E h1 hs
      · exact flL_done E h1 hs
theorem pend_of_ready {D : Nat → Option Nat} {i f : Nat} {l : Array Bool} (hf : f ∈ E) (hn : D f = none) (hl : l.getD f true = false) (hi : i ∉ E) (h : i ∈ Region.ready md ops (flL D E l)) : i ∈ pend md ops l E := by
  obtain ⟨h0, o, ho, hall⟩ := mem_ready.1 h
  have hlt : i < ops.size := (Array.getElem?_eq_some_iff.1 ho).1
  have hc : E.contains i = false := by simpa using hi
  rw [flL_getD D E (by simp [hi])] at h0
  unfold pend
  rw [List.mem_filter, List.mem_range]
  refine ⟨hlt, ?_⟩
  rw [ho]
  simp only [Option.map_some, Option.getD_some, Bool.and_eq_true, Bool.not_eq_true']
  refine ⟨⟨hc, h0⟩, Array.all_eq_true'.2 fun e he => ?_, List.any_eq_true.2 ⟨f, hf, Array.all_eq_true'.2 fun e he => ?_⟩⟩
  · cases hb : Region.binds md e with
    | false => simp
    | true =>
      rcases flL_or D E (hall e he hb) with h | h
      · simp [h]
      · simp [h.1]
  · cases hb : Region.binds md e with
    | false => simp
    | true =>
      have h1 := hall e he hb
      by_cases hef : e.on = f
      · rw [hef, flL_getD D E (by simp [hn])] at h1
        rcases Nat.lt_or_ge f l.size with h' | h'
        · simp [h'] at hl h1; rw [hl] at h1; cases h1
        · simp [Array.getElem?_eq_none h'] at h1
      · simp [hef]
def outs (D : Nat → Option Nat) : List Nat → Nat
  | [] => 0
  | i :: E => (if (D i).isSome then 0 else 1) + outs D E
theorem outs_zero {D : Nat → Option Nat} : ∀ E : List Nat, outs D E = 0 → ∀ i ∈ E, ∃ H, D i = some H
  | [], _, _, h => by cases h
  | k :: E, h0, i, h => by
    unfold outs at h0
    rcases List.mem_cons.1 h with rfl | h
    · cases hD : D i with
      | none => rw [hD] at h0; simp at h0
      | some H => exact ⟨H, rfl⟩
    · exact outs_zero E (by omega) i h
theorem outs_pos {D : Nat → Option Nat} : ∀ E : List Nat, outs D E ≠ 0 → ∃ f ∈ E, D f = none
  | [], h => absurd rfl h
  | k :: E, h => by
    unfold outs at h
    cases hD : D k with
    | none => exact ⟨k, List.mem_cons_self, hD⟩
    | some H =>
      rw [hD] at h
      obtain ⟨f, hf, hn⟩ := outs_pos E (by simpa using h)
      exact ⟨f, List.mem_cons_of_mem _ hf, hn⟩
theorem outs_same {D D' : Nat → Option Nat} : ∀ E : List Nat, (∀ j ∈ E, D j = D' j) → outs D E = outs D' E
  | [], _ => rfl
  | i :: E, h => by
    unfold outs
    rw [h i List.mem_cons_self, outs_same E fun j hj => h j (List.mem_cons_of_mem _ hj)]
theorem outs_upd {D : Nat → Option Nat} {i H : Nat} : ∀ E : List Nat, floatsB md ops E = true → i ∈ E → D i = none → outs D E = outs (upd D i H) E + 1
  | [], _, hi, _ => by cases hi
  | k :: E, hf, hi, hn => by
    simp only [floatsB, Bool.and_eq_true, Bool.not_eq_true'] at hf
    have hk : k ∉ E := by simpa using hf.1.1
    by_cases hki : k = i
    · subst hki
      unfold outs
      rw [hn, outs_same (D := upd D k H) (D' := D) E fun j hj => if_neg (fun e : j = k => hk (by rw [← e]; exact hj))]
      simp [upd]; omega
    · have hi' : i ∈ E := (List.mem_cons.1 hi).resolve_left (Ne.symm hki)
      unfold outs
      have : upd D i H k = D k := if_neg hki
      rw [this, outs_upd (H := H) E hf.2 hi' hn]
      omega
theorem gapTo_self {G : Nat → Prop} {w : World} {b : Nat} (h : G b) : gapTo G w w b := .inl h
theorem wpAnyF_core (hf : floatsB md ops E = true) (hrun : FloatRun P ops E obj) (hSs : ∀ w w', Below w.heap.size w w' → S w → S w') (hsel : Region.noSelect ops = true)
    (hQ : ∀ c (a : Act) d v w, Q (.panic c) a w → Q (.panic c) (a.put (some d) v) w) :
    ∀ (n fuel : Nat) (listed : Array Bool) (a : Act) (w : World) (G : Nat → Prop) (D : Nat → Option Nat), n = fuel + outs D E → (∀ i ∈ E, listed.getD i true = false) →
      (∀ i ∈ E, ∀ H, D i = some H → w.heap[H]? = some (obj i) ∧ G H) → (∀ i ∈ E, ∀ j ∈ E, i ≠ j → ∀ H, D i = some H → D j ≠ some H) → S w →
      wpAnyF P md ops Q S st E obj fuel listed a w G → wpAnyW P md ops Q S st n (flL D E listed) (flA ops D E a) w := by
  have full : ∀ {D : Nat → Option Nat} {w : World} {G : Nat → Prop}, outs D E = 0 → (∀ i ∈ E, ∀ H, D i = some H → w.heap[H]? = some (obj i) ∧ G H) → (∀ i ∈ E, ∀ j ∈ E, i ≠ j → ∀ H, D i = some H → D j ≠ some H) → FlOk E obj D w (gapTo G w w) := fun h0 hD hne => by
    refine ⟨fun i hi => ?_, fun i hi j hj hij e => ?_⟩
    · obtain ⟨H, hH⟩ := outs_zero E h0 i hi
      exact ⟨H, hH, (hD i hi H hH).1, .inl (hD i hi H hH).2⟩
    · obtain ⟨H, hH⟩ := outs_zero E h0 i hi
      exact hne i hi j hj hij H hH (e ▸ hH)
  intro n
  induction n with
  | zero =>
    intro fuel listed a w G D hn hl hD hne hS h
    obtain rfl : fuel = 0 := by omega
    have h0 : outs D E = 0 := by omega
    exact (h w (Below.refl _ _) hS).1 D (full h0 hD hne)
  | succ n ih =>
    intro fuel listed a w G D hn hl hD hne hS h
    by_cases h0 : outs D E = 0
    · obtain rfl : fuel = n + 1 := by omega
      exact (h w (Below.refl _ _) hS).1 D (full h0 hD hne)
    · obtain ⟨f, hfE, hfn⟩ := outs_pos E h0
      have hfr : f ∈ Region.ready md ops (flL D E listed) := by
        obtain ⟨o, d, ho, hg, hd, hafter⟩ := floatsB_dst E hf hfE
        exact mem_ready.2 ⟨by rw [flL_getD D E (by simp [hfn])]; exact hl f hfE, o, ho, fun e he hb => by rw [hafter e he] at hb; cases hb⟩
      refine ⟨fun he => absurd (he ▸ hfr) (by simp), fun i hi => ?_⟩
      by_cases hiE : i ∈ E
      · obtain ⟨o, d, ho, hg, hd, hafter⟩ := floatsB_dst E hf hiE
        have hDi : D i = none := by
          cases hDi : D i with
          | none => rfl
          | some H =>
            have h1 := (mem_ready.1 hi).1
            rw [flL_done E hiE (by rw [hDi]; rfl)] at h1
            cases h1
        have hb : Below w.heap.size w (w.alloc (obj i)) := (Below.refl _ _).alloc (Nat.le_refl _) _
        refine wpOp_step ho fun K' hK => ?_
        rw [if_pos (show Region.wanted o _ = true from by unfold Region.wanted; rw [hg])]
        unfold Oper.wp
        rw [hrun i hiE o ho]
        refine hK _ _ ⟨fun _ => hSs _ _ hb hS, ?_⟩
        have hput : (flA ops D E a).put o.dst (.pointer (some ⟨w.heap.size, 0, none⟩)) = flA ops (upd D i w.heap.size) E a := by
          rw [flA_upd E hf hiE hDi, ho]; rfl
        rw [hput, ← flL_upd E hf hiE hDi (H := w.heap.size)]
        refine ih fuel listed a (w.alloc (obj i)) (gapTo G w (w.alloc (obj i))) (upd D i w.heap.size) (by have := outs_upd (H := w.heap.size) E hf hiE hDi; omega) hl (fun j hj H hH => ?_) (fun j hj k hk hjk H hH hH2 => ?_) (hSs _ _ hb hS) (wpAnyF_later hb h)
        · unfold upd at hH
          by_cases hji : j = i
          · rw [if_pos hji] at hH
            injection hH with hH
            subst hH hji
            exact ⟨heap_alloc_new w _, .inr ⟨Nat.le_refl _, by simp⟩⟩
          · rw [if_neg hji] at hH
            obtain ⟨h1, h2⟩ := hD j hj H hH
            exact ⟨(hb.block H (Array.getElem?_eq_some_iff.1 h1).1).trans h1, .inl h2⟩
        · unfold upd at hH hH2
          by_cases hji : j = i
          · have hki : k ≠ i := fun e => hjk (hji.trans e.symm)
            rw [if_pos hji] at hH
            rw [if_neg hki] at hH2
            injection hH with hH
            have h1 := (Array.getElem?_eq_some_iff.1 (hD k hk H hH2).1).1
            omega
          · rw [if_neg hji] at hH
            by_cases hki : k = i
            · rw [if_pos hki] at hH2
              injection hH2 with hH2
              have h1 := (Array.getElem?_eq_some_iff.1 (hD j hj H hH).1).1
              omega
            · rw [if_neg hki] at hH2
              exact hne j hj k hk hjk H hH hH2
      · have hpe := pend_of_ready hfE hfn (hl f hfE) hiE hi
        cases fuel with
        | zero =>
          rw [(h w (Below.refl _ _) hS).2] at hpe
          cases hpe
        | succ fuel =>
          obtain ⟨_, o, ho, hfar, hw⟩ := (h w (Below.refl _ _) hS).2 i hpe
          refine wpOp_far ho (fun cs b => Region.noSelect_spec hsel i o cs b ho) hQ D E hf hfar (wpOp_mono (fun a' w'' h => ⟨fun _ => h.2.1, ?_⟩) hw)
          rw [← flL_set D E hiE]
          refine ih fuel (listed.setIfInBounds i true) a' w'' (gapTo G w w) D (by omega) (fun j hj => ?_) (fun j hj H hH => ?_) hne h.2.1 h.2.2
          · rw [getD_set_ne true (fun e => hiE (by rw [e]; exact hj))]; exact hl j hj
          · obtain ⟨h1, h2⟩ := hD j hj H hH
            exact ⟨(h.1.block H (Array.getElem?_eq_some_iff.1 h1).1).trans h1, .inl h2⟩
/-- Enter: the operations E are allocations that wait for nothing. -/
theorem wpAnyW_float (E : List Nat) (obj : Nat → Obj) {n fuel : Nat} {listed : Array Bool} {a : Act} {w : World} (hf : floatsB md ops E = true) (hl : (E.all fun i => !listed.getD i true) = true) (hrun : FloatRun P ops E obj) (hSs : ∀ w w', Below w.heap.size w w' → S w → S w') (hsel : Region.noSelect ops = true)
    (hQ : ∀ c (a : Act) d v w, Q (.panic c) a w → Q (.panic c) (a.put (some d) v) w) (hn : n = fuel + E.length) (hS : S w) (h : wpAnyF P md ops Q S st E obj fuel listed a w (fun _ => False)) : wpAnyW P md ops Q S st n listed a w := by
  have h1 : ∀ E : List Nat, flL (fun _ => none) E listed = listed := fun E => by induction E with
    | nil => rfl
    | cons i E ih => simpa [flL] using ih
  have h2 : ∀ E : List Nat, flA ops (fun _ => none) E a = a := fun E => by induction E with
    | nil => rfl
    | cons i E ih => simpa [flA] using ih
  have h3 : ∀ E : List Nat, outs (fun _ => none) E = E.length := fun E => by induction E with
    | nil => rfl
    | cons i E ih => simp [outs, ih]; omega
  have := wpAnyF_core (D := fun _ => none) hf hrun hSs hsel hQ n fuel listed a w (fun _ => False) (by rw [h3]; exact hn) (fun i hi => by simpa using List.all_eq_true.1 hl i hi) (fun _ _ _ h => by cases h) (fun _ _ _ _ _ _ h => by cases h) hS h
  rw [h1, h2] at this
  exact this
/-- One of the others comes up; what was made before it is unknown. -/
theorem wpAnyF_one {i : Nat} {o : Oper} {fuel : Nat} {listed : Array Bool} {a : Act} {w : World} {G : Nat → Prop} (hf : floatsB md ops E = true) (hsel : Region.noSelect ops = true) (hQ : ∀ c (a : Act) d v w, Q (.panic c) a w → Q (.panic c) (a.put (some d) v) w)
    (hp : pend md ops listed E = [i] ∧ Region.ready md ops (flAll E listed) = [i]) (hiE : E.contains i = false) (ho : ops[i]? = some o) (hfar : farFrom ops E o = true)
    (h : ∀ w', Below w.heap.size w w' → S w' → ∀ K' : Act → World → Prop, Shut (∀ a'' w'', Below w'.heap.size w' w'' → S w'' → wpAnyF P md ops Q S st E obj fuel (listed.setIfInBounds i true) a'' w'' (gapTo G w w') → K' a'' w'') → if Region.wanted o (yielded ops a.tmps) = true then Oper.wp P o a w' K' Q else K' (a.put o.dst undef) w') :
    wpAnyF P md ops Q S st E obj (fuel + 1) listed a w G := by
  have hiE' : i ∉ E := by simpa using hiE
  intro w' hb hS
  have hop : wpOp P ops Q i (fun a' w'' => Below w'.heap.size w' w'' ∧ S w'' ∧ wpAnyF P md ops Q S st E obj fuel (listed.setIfInBounds i true) a' w'' (gapTo G w w')) a w' :=
    wpOp_step ho fun K' hK => h w' hb hS K' (fun a'' w'' h1 h2 h3 => hK a'' w'' ⟨h1, h2, h3⟩)
  refine ⟨fun D hD => ?_, fun j hj => ?_⟩
  · have hall : ∀ i ∈ E, (D i).isSome = true := fun i hi => let ⟨H, hH, _⟩ := hD.1 i hi; by rw [hH]; rfl
    have hr : Region.ready md ops (flL D E listed) = [i] := by rw [flL_all D E hall]; exact hp.2
    refine ⟨fun h0 => absurd (hr ▸ h0) (by simp), fun j hj => ?_⟩
    rw [hr] at hj
    obtain rfl : j = i := by simpa using hj
    refine wpOp_far ho (fun cs b => Region.noSelect_spec hsel j o cs b ho) hQ D E hf hfar (wpOp_mono (fun a' w'' h => ⟨fun _ => h.2.1, ?_⟩) hop)
    rw [← flL_set D E hiE']
    have hD' : FlOk E obj D w'' (gapTo (gapTo G w w') w'' w'') := (hD.below h.1).more fun _ h => .inl h
    cases fuel with
    | zero => exact (h.2.2 w'' (Below.refl _ _) h.2.1).1 D hD'
    | succ fuel => exact (h.2.2 w'' (Below.refl _ _) h.2.1).1 D hD'
  · rw [hp.1] at hj
    obtain rfl : j = i := by simpa using hj
    exact ⟨hiE', o, ho, hfar, hop⟩
/-- All the others have come up: the floats are there. -/
theorem wpAnyF_land {fuel : Nat} {listed : Array Bool} {a : Act} {w : World} {G : Nat → Prop} (hp : pend md ops listed E = [])
    (h : ∀ w' D, Below w.heap.size w w' → S w' → FlOk E obj D w' (gapTo G w w') → wpAnyW P md ops Q S st fuel (flAll E listed) (flA ops D E a) w') : wpAnyF P md ops Q S st E obj fuel listed a w G := by
  have key : ∀ w', Below w.heap.size w w' → S w' → ∀ D, FlOk E obj D w' (gapTo G w w') → wpAnyW P md ops Q S st fuel (flL D E listed) (flA ops D E a) w' := fun w' hb hS D hD => by
    rw [flL_all D E fun i hi => let ⟨H, hH, _⟩ := hD.1 i hi; by rw [hH]; rfl]
    exact h w' D hb hS hD
  cases fuel with
  | zero => exact fun w' hb hS => ⟨key w' hb hS, hp⟩
  | succ fuel => exact fun w' hb hS => ⟨key w' hb hS, fun i hi => by rw [hp] at hi; cases hi⟩
theorem wpAnyF_land1 {i : Nat} {oi : Oper} {fuel : Nat} {listed : Array Bool} {a : Act} {w : World} {G : Nat → Prop} (hp : pend md ops listed [i] = []) (hi : ops[i]? = some oi)
    (h : ∀ w' HA, Below w.heap.size w w' → S w' → w'.heap[HA]? = some (obj i) → gapTo G w w' HA → wpAnyW P md ops Q S st fuel (listed.setIfInBounds i true) (a.put oi.dst (.pointer (some ⟨HA, 0, none⟩))) w') : wpAnyF P md ops Q S st [i] obj fuel listed a w G :=
  wpAnyF_land hp fun w' D hb hS hD => by
    obtain ⟨HA, h1, h2, h3⟩ := hD.1 i (by simp)
    have := h w' HA hb hS h2 h3
    simp only [flAll, flA, h1, hi, Option.bind_some]
    exact this
theorem wpAnyF_land2 {i j : Nat} {oi oj : Oper} {fuel : Nat} {listed : Array Bool} {a : Act} {w : World} {G : Nat → Prop} (hp : pend md ops listed [i, j] = []) (hij : (i == j) = false) (hi : ops[i]? = some oi) (hj : ops[j]? = some oj)
    (h : ∀ w' HA HB, Below w.heap.size w w' → S w' → w'.heap[HA]? = some (obj i) → w'.heap[HB]? = some (obj j) → gapTo G w w' HA → gapTo G w w' HB → HA ≠ HB →
      wpAnyW P md ops Q S st fuel ((listed.setIfInBounds j true).setIfInBounds i true) ((a.put oj.dst (.pointer (some ⟨HB, 0, none⟩))).put oi.dst (.pointer (some ⟨HA, 0, none⟩))) w') : wpAnyF P md ops Q S st [i, j] obj fuel listed a w G :=
  wpAnyF_land hp fun w' D hb hS hD => by
    obtain ⟨HA, h1, h2, h3⟩ := hD.1 i (by simp)
    obtain ⟨HB, k1, k2, k3⟩ := hD.1 j (by simp)
    have := h w' HA HB hb hS h2 k2 h3 k3 (fun e => hD.2 i (by simp) j (by simp) (by simpa using hij) (by rw [h1, k1, e]))
    simp only [flAll, flA, h1, k1, hi, hj, Option.bind_some]
    exact this
theorem pend_spec {j : Nat} {l : Array Bool} : j ∈ pend md ops l E ↔ j ∉ E ∧ l.getD j true = false ∧ ∃ o, ops[j]? = some o ∧ (∀ e ∈ o.after, Region.binds md e = true → l.getD e.on false = true ∨ e.on ∈ E) ∧ ∃ f ∈ E, ∀ e ∈ o.after, Region.binds md e = true → e.on ≠ f := by
  have bx : ∀ {p q : Bool}, (!p || q) = true ↔ (p = true → q = true) := by decide
  unfold pend
  rw [List.mem_filter, List.mem_range]
  cases ho : ops[j]? with
  | none => simp
  | some o =>
    have hlt : j < ops.size := (Array.getElem?_eq_some_iff.1 ho).1
    simp only [hlt, true_and, Option.map_some, Option.getD_some, Bool.and_eq_true, Bool.not_eq_true', Array.all_eq_true_iff_forall_mem, Bool.or_assoc, bx, Bool.or_eq_true, List.any_eq_true, bne_iff_ne, ne_eq, List.contains_eq_mem, decide_eq_false_iff_not, decide_eq_true_eq, Option.some.injEq, exists_eq_left', and_assoc]
theorem ready_flL {D : Nat → Option Nat} {i : Nat} {l : Array Bool} : ∀ E : List Nat, i ∉ E → i ∈ Region.ready md ops l → i ∈ Region.ready md ops (flL D E l)
  | [], _, h => h
  | k :: E, hi, h => by
    have h1 : i ∉ E := fun h' => hi (List.mem_cons_of_mem _ h')
    have h2 : i ≠ k := fun e => hi (e ▸ List.mem_cons_self)
    unfold flL
    split
    · exact ready_mono (ready_flL E h1 h) h2
    · exact ready_flL E h1 h
theorem flA_eval {o : Oper} (hs : ∀ cs b, o.op ≠ .select cs b) (D : Nat → Option Nat) {a : Act} : ∀ E : List Nat, floatsB md ops E = true → farFrom ops E o = true →
    execOp (flA ops D E a).eval o = execOp a.eval o ∧ Region.wanted o (yielded ops (flA ops D E a).tmps) = Region.wanted o (yielded ops a.tmps) ∧ ∀ v, (flA ops D E a).put o.dst v = flA ops D E (a.put o.dst v)
  | [], _, _ => ⟨rfl, rfl, fun _ => rfl⟩
  | k :: E, hf, hfar => by
    have hff := hf
    have hfar' := farFrom_spec _ hfar k List.mem_cons_self
    simp only [floatsB, Bool.and_eq_true] at hf
    simp only [farFrom, List.all_cons, Bool.and_eq_true] at hfar
    obtain ⟨ok, d, ho, _, hd, _⟩ := floatsB_dst _ hff List.mem_cons_self
    have hod : (ops[k]?).bind (·.dst) = some d := by rw [ho]; exact hd
    obtain ⟨e1, e2, e3⟩ := flA_eval hs D (a := a) E hf.2 hfar.2
    unfold flA
    cases hD : D k with
    | none => exact ⟨e1, e2, e3⟩
    | some H =>
      simp only [hod]
      have h1 : ∀ d', some d = some d' → d' ∉ o.looksAt ops := fun d' e => by injection e with e; exact e ▸ (hfar' d hod).1
      refine ⟨(execOp_put o hs _ _ _ h1).trans e1, (wanted_put o _ _ _ h1).trans e2, fun v => ?_⟩
      rw [← e3 v, Act.put_comm _ _ v fun d' e => by injection e with e; exact e ▸ (hfar' d hod).2]
/-- Take number i first: it yields its value in every world that meets S. -/
theorem wpAnyF_first {i : Nat} {k : Nat} {oi : Oper} {v : Value} (hi : ops[i]? = some oi) (hsel : ∀ (j : Nat) (o : Oper) cs b, ops[j]? = some o → o.op ≠ .select cs b) (hQ : ∀ c a w, Q (.panic c) (a.put oi.dst v) w → Q (.panic c) a w)
    (hki : waitsFor md ops k i = true) (hnk : (k == i) = false) (hst : (st == k) = true ∨ waitsFor md ops st k = true) (hne : (st == i) = false) (hiE : i ∉ E) (hkE : k ∉ E) (hsE : st ∉ E) (hf : floatsB md ops E = true) (hfi : farFrom ops E oi = true) :
    ∀ (fuel : Nat) (listed : Array Bool) (a : Act) (w : World) (G : Nat → Prop), (∀ j oj, ops[j]? = some oj → j ≠ i → listed.getD j true = false → (∀ e ∈ oj.after, Region.binds md e = true → e.on ≠ i) → oi.apart ops oj = true) → i ∈ Region.ready md ops listed →
      listed.getD k true = false → listed.getD st true = false → YieldsIf P ops S oi v a →
      wpAnyF P md ops Q S st E obj fuel (listed.setIfInBounds i true) (a.put oi.dst v) w G → wpAnyF P md ops Q S st E obj (fuel + 1) listed a w G := by
  intro fuel
  induction fuel with
  | zero =>
    intro listed a w G hfree hr hk hl hy h w' hb hS
    have ee := fun D => flA_eval (md := md) (a := a) (hsel i oi · · hi) D E hf hfi
    refine ⟨fun D hD => ?_, fun j hj => ?_⟩
    · refine wpAnyW_first hi hsel hQ hki hnk hst hne 0 (flL D E listed) (flA ops D E a) w' (fun j oj hj hji hun => hfree j oj hj hji ?_) (ready_flL E hiE hr) (hy.of_same (ee D).1 (ee D).2.1) (by rw [flL_getD D E (by simp [hkE])]; exact hk) (by rw [flL_getD D E (by simp [hsE])]; exact hl) hS ?_
      · cases hc : (E.contains j && (D j).isSome) with
        | false => rw [flL_getD D E hc] at hun; exact hun
        | true =>
          simp only [Bool.and_eq_true] at hc
          rw [flL_done E (by simpa using hc.1) hc.2] at hun
          cases hun
      · rw [(ee D).2.2, ← flL_set D E hiE]
        exact (h w' hb hS).1 D hD
    · by_cases hji : j = i
      · subst hji
        exact ⟨hiE, oi, hi, hfi, hy.wpOp hi hS ⟨Below.refl _ _, hS, wpAnyF_later hb h⟩⟩
      · have := (h w' hb hS).2
        obtain ⟨p1, p2, o, p3, p4, p5⟩ := pend_spec.1 hj
        have hj' : j ∈ pend md ops (listed.setIfInBounds i true) E := pend_spec.2 ⟨p1, by rw [getD_set_ne true (Ne.symm hji)]; exact p2, o, p3, fun e he hb => (p4 e he hb).imp (fun h => getD_set_true h) id, p5⟩
        rw [this] at hj'
        cases hj'
  | succ fuel ih =>
    intro listed a w G hfree hr hk hl hy h w' hb hS
    have ee := fun D => flA_eval (md := md) (a := a) (hsel i oi · · hi) D E hf hfi
    refine ⟨fun D hD => ?_, fun j hj => ?_⟩
    · refine wpAnyW_first hi hsel hQ hki hnk hst hne (fuel + 1) (flL D E listed) (flA ops D E a) w' (fun j oj hj hji hun => hfree j oj hj hji ?_) (ready_flL E hiE hr) (hy.of_same (ee D).1 (ee D).2.1) (by rw [flL_getD D E (by simp [hkE])]; exact hk) (by rw [flL_getD D E (by simp [hsE])]; exact hl) hS ?_
      · cases hc : (E.contains j && (D j).isSome) with
        | false => rw [flL_getD D E hc] at hun; exact hun
        | true =>
          simp only [Bool.and_eq_true] at hc
          rw [flL_done E (by simpa using hc.1) hc.2] at hun
          cases hun
      · rw [(ee D).2.2, ← flL_set D E hiE]
        exact (h w' hb hS).1 D hD
    · by_cases hji : j = i
      · subst hji
        exact ⟨hiE, oi, hi, hfi, hy.wpOp hi hS ⟨Below.refl _ _, hS, wpAnyF_later hb h⟩⟩
      · obtain ⟨p1, p2, o, p3, p4, p5⟩ := pend_spec.1 hj
        have hj' : j ∈ pend md ops (listed.setIfInBounds i true) E := pend_spec.2 ⟨p1, by rw [getD_set_ne true (Ne.symm hji)]; exact p2, o, p3, fun e he hb => (p4 e he hb).imp (fun h => getD_set_true h) id, p5⟩
        obtain ⟨_, oj, hoj, hfar, hw⟩ := (h w' hb hS).2 j hj'
        obtain rfl : o = oj := by rw [p3] at hoj; injection hoj
        have hiun := (mem_ready.1 hr).1
        have hnw : ∀ e ∈ o.after, Region.binds md e = true → e.on ≠ i := fun e he hb heq => by
          rcases p4 e he hb with h0 | h0
          · rw [heq] at h0
            rcases Nat.lt_or_ge i listed.size with h' | h'
            · simp [h'] at hiun h0; rw [hiun] at h0; cases h0
            · simp [Array.getElem?_eq_none h'] at h0
          · exact hiE (heq ▸ h0)
        have nw : ∀ {q r : Nat}, waitsFor md ops q r = true → listed.getD r true = false → r ∉ E → j ≠ q := fun {q r} hw hun hrE e => by
          subst e
          unfold waitsFor at hw
          simp only [p3] at hw
          obtain ⟨e, he, hb⟩ := Array.any_eq_true'.1 hw
          simp only [Bool.and_eq_true, beq_iff_eq] at hb
          rcases p4 e he hb.1 with h0 | h0
          · rw [hb.2] at h0
            rcases Nat.lt_or_ge r listed.size with h' | h'
            · simp [h'] at hun h0; rw [hun] at h0; cases h0
            · simp [Array.getElem?_eq_none h'] at h0
          · exact hrE (hb.2 ▸ h0)
        have hjk : j ≠ k := nw hki hiun hiE
        have hjs : j ≠ st := by
          rcases hst with h | h
          · exact fun e => hjk (e.trans (by simpa using h))
          · exact nw h hk hkE
        refine ⟨p1, o, p3, hfar, ?_⟩
        have h2 := wpOp_putIf p3 (hfree j o p3 hji p2 hnw) (fun cs b => hsel i oi cs b hi) (fun cs b => hsel j o cs b p3) hQ hy hw
        refine wpOp_mono (fun a' w'' h3 => ⟨h3.2.1, h3.2.2.1, ih (listed.setIfInBounds j true) a' w'' _ (fun k' ok hk' hki' hun hno => hfree k' ok hk' hki' ?_ hno) (ready_mono hr (Ne.symm hji)) (by rw [getD_set_ne true hjk]; exact hk) (by rw [getD_set_ne true hjs]; exact hl) h3.1 ?_⟩) h2
        · by_cases hjk' : j = k'
          · subst hjk'; exact p2
          · rw [getD_set_ne true hjk'] at hun; exact hun
        · rw [Array.setIfInBounds_comm _ _ hji]
          exact h3.2.2.2
theorem wpAnyF_take {i : Nat} (k : Nat) {oi : Oper} {v : Value} {fuel : Nat} {listed : Array Bool} {a : Act} {w : World} {G : Nat → Prop} (hi : ops[i]? = some oi) (hs : Region.noSelect ops = true) (hf : floatsB md ops E = true) (hfr : Region.free md ops listed i = true)
    (hc : ((Region.ready md ops listed).contains i && waitsFor md ops k i && !(k == i) && (st == k || waitsFor md ops st k) && !(st == i) && !E.contains i && !E.contains k && !E.contains st && farFrom ops E oi && !listed.getD k true && !listed.getD st true) = true)
    (hQ : ∀ c a w, Q (.panic c) (a.put oi.dst v) w → Q (.panic c) a w) (hy : YieldsIf P ops S oi v a) (h : wpAnyF P md ops Q S st E obj fuel (listed.setIfInBounds i true) (a.put oi.dst v) w G) : wpAnyF P md ops Q S st E obj (fuel + 1) listed a w G := by
  simp only [Bool.and_eq_true, Bool.not_eq_true', Bool.or_eq_true, List.contains_eq_mem, decide_eq_false_iff_not, decide_eq_true_eq, and_assoc] at hc
  obtain ⟨h1, h2, h3, h4, h5, h6, h7, h8, h9, h10, h11⟩ := hc
  exact wpAnyF_first hi (Region.noSelect_spec hs) hQ h2 h3 h4 h5 h6 h7 h8 hf h9 fuel listed a w G (Region.free_spec hi hfr) h1 h10 h11 hy h
/-- some number that st waits for waits for i -/
def gateB (md : Region.Mode) (ops : Array Oper) (st : Nat) (E : List Nat) (listed : Array Bool) (i : Nat) : Bool := (List.range ops.size).any fun k => waitsFor md ops k i && !(k == i) && (st == k || waitsFor md ops st k) && !E.contains k && !listed.getD k true
def takeB (md : Region.Mode) (ops : Array Oper) (st : Nat) (E : List Nat) (listed : Array Bool) (i : Nat) : Bool := Region.noSelect ops && Region.free md ops listed i && (Region.ready md ops listed).contains i && gateB md ops st E listed i && !(st == i) && !E.contains i && !E.contains st && (match ops[i]? with | some o => farFrom ops E o | none => false) && !listed.getD st true && floatsB md ops E
theorem takeB_spec {i : Nat} {oi : Oper} {listed : Array Bool} (hi : ops[i]? = some oi) (h : takeB md ops st E listed i = true) :
    Region.noSelect ops = true ∧ floatsB md ops E = true ∧ Region.free md ops listed i = true ∧ ∃ k, ((Region.ready md ops listed).contains i && waitsFor md ops k i && !(k == i) && (st == k || waitsFor md ops st k) && !(st == i) && !E.contains i && !E.contains k && !E.contains st && farFrom ops E oi && !listed.getD k true && !listed.getD st true) = true := by
  unfold takeB gateB at h
  rw [hi] at h
  simp only [Bool.and_eq_true, List.any_eq_true] at h
  obtain ⟨⟨⟨⟨⟨⟨⟨⟨⟨h1, h2⟩, h3⟩, k, hk0, hk⟩, h5⟩, h6⟩, h7⟩, h8⟩, h9⟩, h10⟩ := h
  obtain ⟨⟨⟨⟨k1, k2⟩, k3⟩, k4⟩, k5⟩ := hk
  refine ⟨h1, h10, h2, k, ?_⟩
  simp only [h3, k1, k2, k3, h5, h6, k4, h7, h8, k5, h9, Bool.and_self]
theorem tkF (i : Nat) {oi : Oper} {v : Value} {fuel : Nat} {listed : Array Bool} {a : Act} {w : World} {G : Nat → Prop} (hi : ops[i]? = some oi) (hB : takeB md ops st E listed i = true) (hQ : ∀ c a w, Q (.panic c) (a.put oi.dst v) w → Q (.panic c) a w)
    (hg : Region.wanted oi (yielded ops a.tmps) = true) (hy : ∀ z, S z → (execOp a.eval oi).run P z = .ok (.value v) z) (h : wpAnyF P md ops Q S st E obj fuel (listed.setIfInBounds i true) (a.put oi.dst v) w G) : wpAnyF P md ops Q S st E obj (fuel + 1) listed a w G := by
  obtain ⟨h1, h2, h3, k, h4⟩ := takeB_spec hi hB
  exact wpAnyF_take k hi h1 h2 h3 h4 hQ (.inl ⟨hg, hy⟩) h
theorem tkW (i : Nat) {oi : Oper} {v : Value} {fuel : Nat} {listed : Array Bool} {a : Act} {w : World} (hS : S w) (hi : ops[i]? = some oi) (hB : takeB md ops st [] listed i = true) (hQ : ∀ c a w, Q (.panic c) (a.put oi.dst v) w → Q (.panic c) a w)
    (hg : Region.wanted oi (yielded ops a.tmps) = true) (hy : ∀ z, S z → (execOp a.eval oi).run P z = .ok (.value v) z) (h : wpAnyW P md ops Q S st fuel (listed.setIfInBounds i true) (a.put oi.dst v) w) : wpAnyW P md ops Q S st (fuel + 1) listed a w := by
  obtain ⟨h1, h2, h3, k, h4⟩ := takeB_spec hi hB
  simp only [Bool.and_eq_true] at h4
  obtain ⟨⟨⟨⟨⟨⟨⟨⟨⟨⟨k1, k2⟩, k3⟩, k4⟩, k5⟩, _⟩, _⟩, _⟩, _⟩, k6⟩, k7⟩ := h4
  exact wpAnyW_take k hi h1 h3 k1 (by simp only [k2, k3, k4, k5, k6, k7, Bool.and_self]) hQ (.inl ⟨hg, hy⟩) hS h
theorem wp_region_U {id : Nat} {a : Act} {w : World} (st : Nat) (hm : P.follows .mixedOrders = true)
    (h : ∀ z, Below w.heap.size w z → z.heap.size = w.heap.size → wpAnyW P .any ops Q (fun z => Below w.heap.size w z) st ops.size (Array.replicate ops.size false) a z) : (Code.region id ops true).wp P Q a w :=
  wp_region_wait _ st hm (h w.drew (Below.refl _ _).drew rfl)
theorem FloatRun.one {i : Nat} {oi : Oper} {bi : Obj} (hi : ops[i]? = some oi) (ri : ∀ (a : Act) (w : World), (execOp a.eval oi).run P w = .ok (.value (.pointer (some ⟨w.heap.size, 0, none⟩))) (w.alloc bi)) : FloatRun P ops [i] (fun _ => bi) := fun q hq o ho => by
  obtain rfl : q = i := by simpa using hq
  rw [hi] at ho
  injection ho with ho
  exact ho ▸ ri
theorem FloatRun.two {i j : Nat} {oi oj : Oper} {bi bj : Obj} (hij : (j == i) = false) (hi : ops[i]? = some oi) (ri : ∀ (a : Act) (w : World), (execOp a.eval oi).run P w = .ok (.value (.pointer (some ⟨w.heap.size, 0, none⟩))) (w.alloc bi))
    (hj : ops[j]? = some oj) (rj : ∀ (a : Act) (w : World), (execOp a.eval oj).run P w = .ok (.value (.pointer (some ⟨w.heap.size, 0, none⟩))) (w.alloc bj)) : FloatRun P ops [i, j] (fun q => if q = i then bi else bj) := fun q hq o ho => by
  rcases List.mem_cons.1 hq with rfl | hq
  · rw [hi] at ho
    injection ho with ho
    simp only [if_pos]
    exact ho ▸ ri
  · obtain rfl : q = j := by simpa using hq
    rw [hj] at ho
    injection ho with ho
    simp only [if_neg (show ¬ q = i by simpa using hij)]
    exact ho ▸ rj
end
end Go.Proofs.YtpikjceodmepiaaGreatDoor

