import Derived.Test.YtgfeainpeplphaaDoorHi
import Derived.Test.YtgfeainpeplphaaDoorReg
import Derived.Deep.AppendLies
import Derived.Maps.AppendAt
import Derived.Deep.OwnRows
namespace Ht
open Go Go.RowKit Hb
/-- the cells of a row of terms -/
def fl6 (ps : List (Tm × Value)) : List Value := ps.flatMap (fun p => cells6 p.1 p.2)
theorem fl6_length (ps : List (Tm × Value)) : (fl6 ps).length = ps.length * 6 := by
  induction ps with
  | nil => rfl
  | cons p ps ih =>
    have e : fl6 (p :: ps) = cells6 p.1 p.2 ++ fl6 ps := by simp [fl6]
    rw [e, List.length_append, ih, List.length_cons]
    show 6 + _ = _
    omega
theorem fl6_append (ps qs : List (Tm × Value)) : fl6 (ps ++ qs) = fl6 ps ++ fl6 qs := by simp [fl6]
theorem fl6_get {ps : List (Tm × Value)} {i j : Nat} {p : Tm × Value} (hi : ps[i]? = some p) (hj : j < 6) : (fl6 ps)[i * 6 + j]? = (cells6 p.1 p.2)[j]? := by
  induction ps generalizing i with
  | nil => simp at hi
  | cons q ps ih =>
    have e : fl6 (q :: ps) = cells6 q.1 q.2 ++ fl6 ps := by simp [fl6]
    have hl : (cells6 q.1 q.2).length = 6 := rfl
    rw [e]
    cases i with
    | zero => cases hi; rw [List.getElem?_append_left (by omega)]; simp
    | succ i =>
      rw [List.getElem?_append_right (by omega), show (i + 1) * 6 + j - (cells6 q.1 q.2).length = i * 6 + j by omega]
      exact ih (by simpa using hi)
theorem fl6_one (ps : List (Tm × Value)) (h : ∀ p ∈ ps, p.2.oneCell' = true) : ∀ u ∈ fl6 ps, u.oneCell' = true := by
  intro u hu
  obtain ⟨p, hp, hy⟩ := List.mem_flatMap.1 hu
  unfold cells6 at hy
  simp at hy
  rcases hy with rfl | rfl | rfl | rfl | rfl | rfl
  all_goals first | rfl | exact h p hp
theorem TAtP.one {w : World} {P : Nat → Prop} {t : Tm} {sl : Value} (h : TAtP w P t sl) : sl.oneCell' = true := by
  obtain ⟨A, c, rfl, _⟩ := TAtP.iff.1 h
  rfl
theorem TAt.one {w : World} {B : Nat} {t : Tm} {sl : Value} (h : TAt w B t sl) : sl.oneCell' = true := TAtP.one h
end Ht
namespace Go.Proofs.YtgfeainpeplphaaDoor
open Go.RowKit Hb Ht
set_option linter.unusedVariables false
set_option linter.unusedSimpArgs false
theorem infoT : (Tryd.prog.info? 25).map (fun i => (i.zero, i.size, i.bytes)) = some (some (.agg #[.int .i64 0, .string ⟨#[]⟩, .string ⟨#[]⟩, .int .u64 0, .int .i64 0, .slice none 0 0]), 6, 80) := by kernel_rfl
/-- a slice of the call's own, from block B on: terms, whose parts lie in blocks that are P, none of them its own -/
structure TRow (w : World) (B : Nat) (P : Nat → Prop) (A : Option Addr) (n c : Nat) (ps : List (Tm × Value)) : Prop where
  own : w.ownsRow B 25 6 (.slice A n c) n (fl6 ps)
  kid : ∀ p ∈ ps, TAtP w (fun b => P b ∧ (Value.slice A n c).ownBlock ≠ some b) p.1 p.2
section
variable {w w' : World} {B : Nat} {P : Nat → Prop} {A : Option Addr} {n c : Nat} {ps : List (Tm × Value)}
theorem TRow.len (h : TRow w B P A n c ps) : ps.length = n := by have := h.own.1; rw [fl6_length] at this; omega
theorem TRow.cap (h : TRow w B P A n c ps) : n ≤ c ∧ c ≤ maxLen := by
  rcases h.own.2 with ⟨h1, _⟩ | ⟨g, cap, cur, h1, h2, h3, h4, h5, _⟩
  · injection h1 with a b c; subst b; subst c; exact ⟨Nat.le_refl _, by simp [maxLen]⟩
  · injection h1 with a b c; subst c; exact ⟨h4, h5⟩
theorem TRow.nil (w : World) (B : Nat) (P : Nat → Prop) : TRow w B P none 0 0 [] := ⟨⟨rfl, .inl ⟨rfl, rfl⟩⟩, fun p hp => by cases hp⟩
/-- its own block -/
theorem TRow.block (h : TRow w B P A n c ps) : (A = none ∧ n = 0) ∨ ∃ g, A = some ⟨g, 0, none⟩ ∧ B ≤ g ∧ g < w.heap.size ∧ (Value.slice A n c).ownBlock = some g := by
  rcases h.own.2 with ⟨h1, _⟩ | ⟨g, cap, cur, h1, h2, h3, _⟩
  · injection h1 with a b c; exact .inl ⟨a, b⟩
  · injection h1 with a b c
    subst a
    exact .inr ⟨g, rfl, h2, (Array.getElem?_eq_some_iff.1 h3).1, rfl⟩
theorem TRow.keep (h : TRow w B P A n c ps) (hb : Below w.heap.size w w') (hP : ∀ b, P b → b < w.heap.size) : TRow w' B P A n c ps := by
  refine ⟨⟨h.own.1, ?_⟩, fun p hp => TAtP.keep _ (h.kid p hp) (fun b hb2 => ⟨hb2, hb.block b (hP b hb2.1)⟩)⟩
  rcases h.own.2 with h1 | ⟨g, cap, cur, h1, h2, h3, h4⟩
  · exact .inl h1
  · exact .inr ⟨g, cap, cur, h1, h2, (hb.block g (Array.getElem?_eq_some_iff.1 h3).1).trans h3, h4⟩
theorem TRow.wide {Q : Nat → Prop} (h : TRow w B P A n c ps) (hP : ∀ b, P b → Q b) : TRow w B Q A n c ps :=
  ⟨h.own, fun p hp => TAtP.keep _ (h.kid p hp) (fun b hb2 => ⟨⟨hP b hb2.1, hb2.2⟩, rfl⟩)⟩
theorem TRow.lower {B' : Nat} (h : TRow w B P A n c ps) (hB : B' ≤ B) : TRow w B' P A n c ps := by
  refine ⟨⟨h.own.1, ?_⟩, h.kid⟩
  rcases h.own.2 with h1 | ⟨g, cap, cur, h1, h2, h3⟩
  · exact .inl h1
  · exact .inr ⟨g, cap, cur, h1, Nat.le_trans hB h2, h3⟩
theorem TRow.keepP (h : TRow w B P A n c ps) (hb : ∀ b, B ≤ b → b < w.heap.size → w'.heap[b]? = w.heap[b]?) (hP : ∀ b, P b → w'.heap[b]? = w.heap[b]?) : TRow w' B P A n c ps := by
  refine ⟨⟨h.own.1, ?_⟩, fun p hp => TAtP.keep _ (h.kid p hp) (fun b hb2 => ⟨hb2, hP b hb2.1⟩)⟩
  rcases h.own.2 with h1 | ⟨g, cap, cur, h1, h2, h3, h4⟩
  · exact .inl h1
  · exact .inr ⟨g, cap, cur, h1, h2, (hb g h2 (Array.getElem?_eq_some_iff.1 h3).1).trans h3, h4⟩
theorem TRow.termP (h : TRow w B P A n c ps) (hP : ∀ b, B ≤ b → b < w.heap.size → P b) {t : Tm} (ht : t.as = ps.map (·.1)) (hn : n ≤ maxArgs) (ho : okF t) : TAtP w P t (.slice A n c) := by
  have hl := h.len
  have hl2 : t.as.length = n := by rw [ht, List.length_map, hl]
  rw [TAtP.iff, hl2]
  refine ⟨A, c, rfl, h.cap.1, h.cap.2, hn, ho, fun hne => ?_⟩
  have hn0 : 0 < n := by rw [← hl2]; exact List.length_pos_iff.2 hne
  rcases h.block with ⟨_, h0⟩ | ⟨g, rfl, hB, hg, _⟩
  · omega
  · refine ⟨g, 0, rfl, hP g hB hg, fun i a ha => ?_⟩
    rw [ht, List.getElem?_map] at ha
    cases hp : ps[i]? with
    | none => rw [hp] at ha; cases ha
    | some p =>
      rw [hp] at ha
      cases ha
      refine ⟨p.2, fun j hj => ?_, TAtP.keep _ (h.kid p (List.mem_of_getElem? hp)) (fun b hb => ⟨hb.1, rfl⟩)⟩
      have hc := fl6_get hp hj
      have hlt : j < (cells6 p.1 p.2).length := hj
      rw [List.getElem?_eq_getElem hlt] at hc ⊢
      have h9 := World.ownsRow.cells h.own (g := g) rfl _ _ hc
      rw [add_zero'] at h9
      rw [Nat.zero_add]
      exact h9
/-- a term with such arguments -/
theorem TRow.term (h : TRow w B (fun b => b < w.heap.size) A n c ps) {t : Tm} (ht : t.as = ps.map (·.1)) (hn : n ≤ maxArgs) (ho : okF t) : TAt w w.heap.size t (.slice A n c) := by
  have hl := h.len
  have hl2 : t.as.length = n := by rw [ht, List.length_map, hl]
  rw [TAt.iff, hl2]
  refine ⟨A, c, rfl, h.cap.1, h.cap.2, hn, ho, fun hne => ?_⟩
  have hn0 : 0 < n := by rw [← hl2]; exact List.length_pos_iff.2 hne
  rcases h.block with ⟨_, h0⟩ | ⟨g, rfl, hB, hg, _⟩
  · omega
  · refine ⟨g, 0, rfl, hg, fun i a ha => ?_⟩
    rw [ht, List.getElem?_map] at ha
    cases hp : ps[i]? with
    | none => rw [hp] at ha; cases ha
    | some p =>
      rw [hp] at ha
      cases ha
      refine ⟨p.2, fun j hj => ?_, TAtP.keep _ (h.kid p (List.mem_of_getElem? hp)) (fun b hb => ⟨hb.1, rfl⟩)⟩
      have hc := fl6_get hp hj
      have hlt : j < (cells6 p.1 p.2).length := hj
      rw [List.getElem?_eq_getElem hlt] at hc ⊢
      have h9 := World.ownsRow.cells h.own (g := g) rfl _ _ hc
      rw [add_zero'] at h9
      rw [Nat.zero_add]
      exact h9
end
/-- append of terms, at a step of a drawn region -/
theorem run_append_T {w : World} {B : Nat} {P : Nat → Prop} {A : Option Addr} {n c : Nat} {ps qs : List (Tm × Value)} (h : TRow w B P A n c ps) (hP : ∀ b, P b → b < w.heap.size) {ad : Addr} {m : Nat} (hq : qs.length = m)
    (hk : ∀ q ∈ qs, TAtP w (fun b => P b ∧ (Value.slice A n c).ownBlock ≠ some b) q.1 q.2) (hnews : ∀ j u, (fl6 qs)[j]? = some u → w.cell? (ad.add j) = some u) (hm : n + m ≤ maxArgs) (hb : B ≤ w.heap.size)
    {v' : Value} {w' : World} (ho : w'.ownsRow B 25 6 v' (n + m) (fl6 ps ++ fl6 qs)) (hg : w.grownBy w' (Value.slice A n c).ownBlock) (hv : v'.ownBlock = (Value.slice A n c).ownBlock ∨ v'.ownBlock = some w.heap.size) :
    ∃ A' c', v' = .slice A' (n + m) c' ∧ TRow w' B P A' (n + m) c' (ps ++ qs) ∧ Below B w w' := by
  have hf : ∃ A' c', v' = .slice A' (n + m) c' := by
    rcases ho.2 with ⟨h1, h2⟩ | ⟨g', cap, cur, h1, _⟩
    · exact ⟨none, 0, by rw [h1, h2]⟩
    · exact ⟨_, cap, h1⟩
  obtain ⟨A', c', rfl⟩ := hf
  refine ⟨A', c', rfl, ⟨by rw [fl6_append]; exact ho, fun p hp => ?_⟩, ⟨hg.os, hg.tape, hg.output, hg.size, fun j hj => hg.block j (Nat.lt_of_lt_of_le hj hb) (fun e2 => ?_)⟩⟩
  · have hkid : TAtP w (fun b => P b ∧ (Value.slice A n c).ownBlock ≠ some b) p.1 p.2 := by
      rcases List.mem_append.1 hp with hp | hp
      · exact h.kid p hp
      · exact hk p hp
    refine TAtP.keep _ hkid (fun b hb2 => ⟨⟨hb2.1, ?_⟩, hg.block b (hP b hb2.1) (fun e => hb2.2 e.symm)⟩)
    rcases hv with hv | hv
    · rw [hv]; exact hb2.2
    · rw [hv]; intro e; have := hP b hb2.1; injection e with e; omega
  · rcases h.block with ⟨h1, _⟩ | ⟨g, h1, h2, h3, h4⟩
    · subst h1; simp [Value.ownBlock] at e2
    · rw [h4] at e2; injection e2 with e2; omega
theorem wpList_append_T {ops : Array Oper} {rest : List Oper} {o : Oper} {a : Act} {Q : Exit → Act → World → Prop} {w : World} (hgd : o.guard = none) (s x : Operand)
    (ho : o.op = .call { callee := .builtin .append, args := #[s, x], argTypes := #[23, 23] })
    {B : Nat} {P : Nat → Prop} {A : Option Addr} {n c : Nat} {ps : List (Tm × Value)} (qs : List (Tm × Value)) (hs : a.eval s = .slice A n c) (h : TRow w B P A n c ps) (hP : ∀ b, P b → b < w.heap.size)
    (ad : Addr) (m c2 : Nat) (hx : a.eval x = .slice (some ad) m c2) (hq : qs.length = m) (hk : ∀ q ∈ qs, TAtP w (fun b => P b ∧ (Value.slice A n c).ownBlock ≠ some b) q.1 q.2) (hnews : ∀ j u, (fl6 qs)[j]? = some u → w.cell? (ad.add j) = some u)
    (hm : n + m ≤ maxArgs) (hb : B ≤ w.heap.size)
    (hh : ∀ A' c' w', TRow w' B P A' (n + m) c' (ps ++ qs) → Below B w w' → w.grownBy w' (Value.slice A n c).ownBlock → wpList Tryd.prog ops Q rest (a.put o.dst (.slice A' (n + m) c')) w') :
    wpList Tryd.prog ops Q (o :: rest) a w := by
  obtain ⟨i0, hi, hz0, hz1, hz2⟩ := info_parts infoT
  have hml : n + m ≤ maxLen := by unfold maxLen; unfold maxArgs at hm; omega
  have hmb : (n + m) * 80 ≤ 140737488355328 := by unfold maxArgs at hm; omega
  refine wpList_append_own_at _ hgd s x 23 ho B 25 i0 (.agg #[.int .i64 0, .string ⟨#[]⟩, .string ⟨#[]⟩, .int .u64 0, .int .i64 0, .slice none 0 0]) 6 80 Tryd.underlying23 hi hz0 hz1 hz2 rfl (by decide) _ n (fl6 ps) hs h.own ad m c2 (fl6 qs) hx (by rw [fl6_length, hq]) hnews (fl6_one qs (fun q hq2 => TAtP.one (hk q hq2))) hml hmb hb ?_
  intro v' w' ho' hg _ hv
  obtain ⟨A', c', rfl, hr, hbw⟩ := run_append_T h hP hq hk hnews hm hb ho' hg hv
  exact hh A' c' w' hr hbw hg
theorem step_append_T {o : Oper} {a : Act} {w : World} {K : Act → World → Prop} {Q : Exit → Act → World → Prop} (hgd : o.guard = none) (s x : Operand)
    (ho : o.op = .call { callee := .builtin .append, args := #[s, x], argTypes := #[23, 23] })
    {B : Nat} {P : Nat → Prop} {A : Option Addr} {n c : Nat} {ps : List (Tm × Value)} (qs : List (Tm × Value)) (hs : a.eval s = .slice A n c) (h : TRow w B P A n c ps) (hP : ∀ b, P b → b < w.heap.size)
    (ad : Addr) (m c2 : Nat) (hx : a.eval x = .slice (some ad) m c2) (hq : qs.length = m) (hk : ∀ q ∈ qs, TAtP w (fun b => P b ∧ (Value.slice A n c).ownBlock ≠ some b) q.1 q.2) (hnews : ∀ j u, (fl6 qs)[j]? = some u → w.cell? (ad.add j) = some u)
    (hm : n + m ≤ maxArgs) (hb : B ≤ w.heap.size)
    (hh : ∀ A' c' w', TRow w' B P A' (n + m) c' (ps ++ qs) → Below B w w' → w.grownBy w' (Value.slice A n c).ownBlock → K (a.put o.dst (.slice A' (n + m) c')) w') :
    Oper.wp Tryd.prog o a w K Q := by
  obtain ⟨i0, hi, hz0, hz1, hz2⟩ := info_parts infoT
  have hml : n + m ≤ maxLen := by unfold maxLen; unfold maxArgs at hm; omega
  have hmb : (n + m) * 80 ≤ 140737488355328 := by unfold maxArgs at hm; omega
  obtain ⟨v', w', hr, h2, h3, h4, h5⟩ := run_append_own_at (P := Tryd.prog) w B 23 o.type 25 i0 (.agg #[.int .i64 0, .string ⟨#[]⟩, .string ⟨#[]⟩, .int .u64 0, .int .i64 0, .slice none 0 0]) 6 80 Tryd.underlying23 hi hz0 hz1 hz2 rfl (by decide) (.slice A n c) n (fl6 ps) h.own ad m c2 (fl6 qs) (by rw [fl6_length, hq]) hnews (fl6_one qs (fun q hq2 => TAtP.one (hk q hq2))) hml hmb hb
  obtain ⟨A', c', rfl, hr2, hbw⟩ := run_append_T h hP hq hk hnews hm hb h2 h3 h5
  unfold Oper.wp execOp
  simp only [ho, resolve, invoke, builtin, Sem.run_bind, Sem.run_pure, Result.andThen_ok, List.map_toArray, List.map_cons, List.map_nil, hs, hx, hr]
  exact hh _ _ _ hr2 hbw h3
end Go.Proofs.YtgfeainpeplphaaDoor
