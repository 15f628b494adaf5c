import Derived.Test.YtpikjceodmepiaaAem
set_option linter.unusedVariables false
set_option linter.unusedSimpArgs false
namespace Go.Proofs.Ytpikjceodmepiaa
open Go.RowKit Hb Hf
set_option linter.unusedVariables false
set_option linter.unusedSimpArgs false
/-! ### rows of the reference's numbers -/
structure Bg where
  z : Int
  A : Option Addr
  c : Nat
abbrev Bg.n (b : Bg) : Nat := (digs 2 b.z.natAbs).length
def cells2 (b : Bg) : List Value := [.bool (decide (b.z < 0)), .slice b.A b.n b.c]
def Bg.At (w : World) (P : Nat → Prop) (b : Bg) : Prop := LimB w P b.A b.n b.c (digs 2 b.z.natAbs)
theorem Bg.At.keep {w w' : World} {P Q : Nat → Prop} {b : Bg} (h : b.At w P) (hb : ∀ x, P x → Q x ∧ w'.heap[x]? = w.heap[x]?) : b.At w' Q := LimB.keep h hb
theorem Bg.At.sb {w : World} {P : Nat → Prop} {b : Bg} (h : b.At w P) (hs : b.n ≤ 1000000000) : Sb w P (.num b.z) (rb (.num b.z) b.A b.c) := ⟨h, ⟨_, _, rfl⟩, hs⟩
def fl2 (ps : List Bg) : List Value := ps.flatMap cells2
theorem fl2_length (ps : List Bg) : (fl2 ps).length = ps.length * 2 := by
  induction ps with
  | nil => rfl
  | cons p ps ih =>
    have e : fl2 (p :: ps) = cells2 p ++ fl2 ps := by simp [fl2]
    rw [e, List.length_append, ih, List.length_cons]
    show 2 + _ = _
    omega
theorem fl2_append (ps qs : List Bg) : fl2 (ps ++ qs) = fl2 ps ++ fl2 qs := by simp [fl2]
theorem fl2_get {ps : List Bg} {i j : Nat} {p : Bg} (hi : ps[i]? = some p) (hj : j < 2) : (fl2 ps)[i * 2 + j]? = (cells2 p)[j]? := by
  induction ps generalizing i with
  | nil => simp at hi
  | cons q ps ih =>
    have e : fl2 (q :: ps) = cells2 q ++ fl2 ps := by simp [fl2]
    have hl : (cells2 q).length = 2 := rfl
    rw [e]
    cases i with
    | zero => cases hi; rw [List.getElem?_append_left (by omega)]; simp
    | succ i =>
      rw [List.getElem?_append_right (by omega), show (i + 1) * 2 + j - (cells2 q).length = i * 2 + j by omega]
      exact ih (by simpa using hi)
theorem fl2_one (ps : List Bg) : ∀ u ∈ fl2 ps, u.oneCell' = true := by
  intro u hu
  obtain ⟨p, hp, hy⟩ := List.mem_flatMap.1 hu
  simp [cells2] at hy
  rcases hy with rfl | rfl <;> rfl
structure RdB (w : World) (P : Nat → Prop) (A : Option Addr) (n c : Nat) (ps : List Bg) : Prop where
  len : ps.length = n
  cap : n ≤ c
  max : c ≤ maxLen
  rd : ps ≠ [] → ∃ b o, A = some ⟨b, o, none⟩ ∧ P b ∧ ∀ i v, (fl2 ps)[i]? = some v → w.cell? ⟨b, o + i, none⟩ = some v
  kid : ∀ p ∈ ps, Bg.At w P p
theorem RdB.keep {w w' : World} {P Q : Nat → Prop} {A : Option Addr} {n c : Nat} {ps : List Bg} (h : RdB w P A n c ps) (hb : ∀ b, P b → Q b ∧ w'.heap[b]? = w.heap[b]?) : RdB w' Q A n c ps :=
  ⟨h.len, h.cap, h.max, fun hl => by
    obtain ⟨b, o, e, hp, hc⟩ := h.rd hl
    exact ⟨b, o, e, (hb b hp).1, fun i v hv => (World.cell?_of_block (a := ⟨b, o + i, none⟩) (hb b hp).2).trans (hc i v hv)⟩, fun p hp => (h.kid p hp).keep hb⟩
theorem RdB.at_ {w : World} {P : Nat → Prop} {A : Option Addr} {n c : Nat} {ps : List Bg} (h : RdB w P A n c ps) {k : Nat} {p : Bg} (hk : ps[k]? = some p) : ∃ b o, A = some ⟨b, o, none⟩ ∧ P b ∧
    w.cell? ⟨b, o + k * 2, none⟩ = some (.bool (decide (p.z < 0))) ∧ w.cell? ⟨b, o + k * 2 + 1, none⟩ = some (.slice p.A p.n p.c) := by
  obtain ⟨b, o, e, hp, hc⟩ := h.rd (fun e => by rw [e] at hk; simp at hk)
  have key : ∀ j u, j < 2 → (cells2 p)[j]? = some u → w.cell? ⟨b, o + k * 2 + j, none⟩ = some u := fun j u hj hu => by
    have := hc (k * 2 + j) u ((fl2_get hk hj).trans hu)
    rwa [← Nat.add_assoc] at this
  exact ⟨b, o, e, hp, key 0 _ (by omega) rfl, key 1 _ (by omega) rfl⟩
theorem infoB : (Try.prog.info? 63).map (fun i => (i.zero, i.size, i.bytes)) = some (some (.agg #[.bool false, .slice none 0 0]), 2, 32) := by kernel_rfl
/-- a slice of the call's own, from block B on: ranges, whose limbs lie in blocks that are P, none of them its own -/
structure BRow (w : World) (B : Nat) (P : Nat → Prop) (A : Option Addr) (n c : Nat) (ps : List Bg) : Prop where
  own : w.ownsRow B 63 2 (.slice A n c) n (fl2 ps)
  kid : ∀ p ∈ ps, Bg.At w (fun b => P b ∧ (Value.slice A n c).ownBlock ≠ some b) p
section
variable {w w' : World} {B : Nat} {P : Nat → Prop} {A : Option Addr} {n c : Nat} {ps : List Bg}
theorem BRow.len (h : BRow w B P A n c ps) : ps.length = n := by have := h.own.1; rw [fl2_length] at this; omega
theorem BRow.cap (h : BRow w B P A n c ps) : n ≤ c ∧ c ≤ maxLen := by
  rcases h.own.2 with ⟨h1, _⟩ | ⟨g, cap, cur, h1, h2, h3, h4, h5, _⟩
  · injection h1 with a b c; subst b; subst c; exact ⟨Nat.le_refl _, by simp [maxLen]⟩
  · injection h1 with a b c; subst c; exact ⟨h4, h5⟩
theorem BRow.nil (w : World) (B : Nat) (P : Nat → Prop) : BRow w B P none 0 0 [] := ⟨⟨rfl, .inl ⟨rfl, rfl⟩⟩, fun p hp => by cases hp⟩
/-- its own block -/
theorem BRow.block (h : BRow w B P A n c ps) : (A = none ∧ n = 0) ∨ ∃ g, A = some ⟨g, 0, none⟩ ∧ B ≤ g ∧ g < w.heap.size ∧ (Value.slice A n c).ownBlock = some g := by
  rcases h.own.2 with ⟨h1, _⟩ | ⟨g, cap, cur, h1, h2, h3, _⟩
  · injection h1 with a b c; exact .inl ⟨a, b⟩
  · injection h1 with a b c
    subst a
    exact .inr ⟨g, rfl, h2, (Array.getElem?_eq_some_iff.1 h3).1, rfl⟩
theorem BRow.wide {Q : Nat → Prop} (h : BRow w B P A n c ps) (hP : ∀ b, P b → Q b) : BRow w B Q A n c ps :=
  ⟨h.own, fun p hp => (h.kid p hp).keep (fun b hb2 => ⟨⟨hP b hb2.1, hb2.2⟩, rfl⟩)⟩
theorem BRow.lower {B' : Nat} (h : BRow w B P A n c ps) (hB : B' ≤ B) : BRow w B' P A n c ps := by
  refine ⟨⟨h.own.1, ?_⟩, h.kid⟩
  rcases h.own.2 with h1 | ⟨g, cap, cur, h1, h2, h3⟩
  · exact .inl h1
  · exact .inr ⟨g, cap, cur, h1, Nat.le_trans hB h2, h3⟩
theorem BRow.keepP (h : BRow w B P A n c ps) (hb : ∀ b, B ≤ b → b < w.heap.size → w'.heap[b]? = w.heap[b]?) (hP : ∀ b, P b → w'.heap[b]? = w.heap[b]?) : BRow w' B P A n c ps := by
  refine ⟨⟨h.own.1, ?_⟩, fun p hp => (h.kid p hp).keep (fun b hb2 => ⟨hb2, hP b hb2.1⟩)⟩
  rcases h.own.2 with h1 | ⟨g, cap, cur, h1, h2, h3, h4⟩
  · exact .inl h1
  · exact .inr ⟨g, cap, cur, h1, h2, (hb g h2 (Array.getElem?_eq_some_iff.1 h3).1).trans h3, h4⟩
theorem BRow.keep (h : BRow w B P A n c ps) (hb : Below w.heap.size w w') (hP : ∀ b, P b → b < w.heap.size) : BRow w' B P A n c ps :=
  h.keepP (fun b _ hb2 => hb.block b hb2) (fun b hp => hb.block b (hP b hp))
/-- it reads as a set -/
theorem BRow.set (h : BRow w B P A n c ps) (hP : ∀ b, B ≤ b → b < w.heap.size → P b) : RdB w P A n c ps := by
  refine ⟨h.len, h.cap.1, h.cap.2, fun hl => ?_, fun p hp => (h.kid p hp).keep fun b hb => ⟨hb.1, rfl⟩⟩
  have hn0 : 0 < n := by rw [← h.len]; exact List.length_pos_iff.2 hl
  rcases h.block with ⟨_, h0⟩ | ⟨g, rfl, hB, hg, _⟩
  · omega
  · refine ⟨g, 0, rfl, hP g hB hg, fun i v hv => ?_⟩
    have h9 := World.ownsRow.cells h.own (g := g) rfl _ _ hv
    rw [add_zero'] at h9
    rw [Nat.zero_add]
    exact h9
end
/-- append of ranges, at a step of a drawn region -/
theorem run_append_B {w : World} {B : Nat} {P : Nat → Prop} {A : Option Addr} {n c : Nat} {ps qs : List Bg} (h : BRow w B P A n c ps) (hP : ∀ b, P b → b < w.heap.size) {ad : Addr} {m : Nat} (hq : qs.length = m)
    (hk : ∀ q ∈ qs, Bg.At w (fun b => P b ∧ (Value.slice A n c).ownBlock ≠ some b) q) (hnews : ∀ j u, (fl2 qs)[j]? = some u → w.cell? (ad.add j) = some u) (hm : n + m ≤ maxRg) (hb : B ≤ w.heap.size)
    {v' : Value} {w' : World} (ho : w'.ownsRow B 63 2 v' (n + m) (fl2 ps ++ fl2 qs)) (hg : w.grownBy w' (Value.slice A n c).ownBlock) (hv : v'.ownBlock = (Value.slice A n c).ownBlock ∨ v'.ownBlock = some w.heap.size) :
    ∃ A' c', v' = .slice A' (n + m) c' ∧ BRow w' B P A' (n + m) c' (ps ++ qs) ∧ Below B w w' := by
  have hf : ∃ A' c', v' = .slice A' (n + m) c' := by
    rcases ho.2 with ⟨h1, h2⟩ | ⟨g', cap, cur, h1, _⟩
    · exact ⟨none, 0, by rw [h1, h2]⟩
    · exact ⟨_, cap, h1⟩
  obtain ⟨A', c', rfl⟩ := hf
  refine ⟨A', c', rfl, ⟨by rw [fl2_append]; exact ho, fun p hp => ?_⟩, ⟨hg.os, hg.tape, hg.output, hg.size, fun j hj => hg.block j (Nat.lt_of_lt_of_le hj hb) (fun e2 => ?_)⟩⟩
  · have hkid : Bg.At w (fun b => P b ∧ (Value.slice A n c).ownBlock ≠ some b) p := by
      rcases List.mem_append.1 hp with hp | hp
      · exact h.kid p hp
      · exact hk p hp
    refine hkid.keep (fun b hb2 => ⟨⟨hb2.1, ?_⟩, hg.block b (hP b hb2.1) (fun e => hb2.2 e.symm)⟩)
    rcases hv with hv | hv
    · rw [hv]; exact hb2.2
    · rw [hv]; intro e; have := hP b hb2.1; injection e with e; omega
  · rcases h.block with ⟨h1, _⟩ | ⟨g, h1, h2, h3, h4⟩
    · subst h1; simp [Value.ownBlock] at e2
    · rw [h4] at e2; injection e2 with e2; omega
theorem wpList_append_B {ops : Array Oper} {rest : List Oper} {o : Oper} {a : Act} {Q : Exit → Act → World → Prop} {w : World} (hgd : o.guard = none) (s x : Operand)
    (ho : o.op = .call { callee := .builtin .append, args := #[s, x], argTypes := #[74, 74] })
    {B : Nat} {P : Nat → Prop} {A : Option Addr} {n c : Nat} {ps : List Bg} (qs : List Bg) (hs : a.eval s = .slice A n c) (h : BRow w B P A n c ps) (hP : ∀ b, P b → b < w.heap.size)
    (ad : Addr) (m c2 : Nat) (hx : a.eval x = .slice (some ad) m c2) (hq : qs.length = m) (hk : ∀ q ∈ qs, Bg.At w (fun b => P b ∧ (Value.slice A n c).ownBlock ≠ some b) q) (hnews : ∀ j u, (fl2 qs)[j]? = some u → w.cell? (ad.add j) = some u)
    (hm : n + m ≤ maxRg) (hb : B ≤ w.heap.size)
    (hh : ∀ A' c' w', BRow w' B P A' (n + m) c' (ps ++ qs) → Below B w w' → w.grownBy w' (Value.slice A n c).ownBlock → wpList Try.prog ops Q rest (a.put o.dst (.slice A' (n + m) c')) w') :
    wpList Try.prog ops Q (o :: rest) a w := by
  obtain ⟨i0, hi, hz0, hz1, hz2⟩ := info_parts infoB
  have hml : n + m ≤ maxLen := by unfold maxLen; unfold maxRg at hm; omega
  have hmb : (n + m) * 32 ≤ 140737488355328 := by unfold maxRg at hm; omega
  refine wpList_append_own_at _ hgd s x 74 ho B 63 i0 (.agg #[.bool false, .slice none 0 0]) 2 32 Try.underlying74 hi hz0 hz1 hz2 rfl (by decide) _ n (fl2 ps) hs h.own ad m c2 (fl2 qs) hx (by rw [fl2_length, hq]) hnews (fl2_one qs) hml hmb hb ?_
  intro v' w' ho' hg _ hv
  obtain ⟨A', c', rfl, hr, hbw⟩ := run_append_B h hP hq hk hnews hm hb ho' hg hv
  exact hh A' c' w' hr hbw hg
theorem step_append_B {o : Oper} {a : Act} {w : World} {K : Act → World → Prop} {Q : Exit → Act → World → Prop} (hgd : o.guard = none) (s x : Operand)
    (ho : o.op = .call { callee := .builtin .append, args := #[s, x], argTypes := #[74, 74] })
    {B : Nat} {P : Nat → Prop} {A : Option Addr} {n c : Nat} {ps : List Bg} (qs : List Bg) (hs : a.eval s = .slice A n c) (h : BRow w B P A n c ps) (hP : ∀ b, P b → b < w.heap.size)
    (ad : Addr) (m c2 : Nat) (hx : a.eval x = .slice (some ad) m c2) (hq : qs.length = m) (hk : ∀ q ∈ qs, Bg.At w (fun b => P b ∧ (Value.slice A n c).ownBlock ≠ some b) q) (hnews : ∀ j u, (fl2 qs)[j]? = some u → w.cell? (ad.add j) = some u)
    (hm : n + m ≤ maxRg) (hb : B ≤ w.heap.size)
    (hh : ∀ A' c' w', BRow w' B P A' (n + m) c' (ps ++ qs) → Below B w w' → w.grownBy w' (Value.slice A n c).ownBlock → K (a.put o.dst (.slice A' (n + m) c')) w') :
    Oper.wp Try.prog o a w K Q := by
  obtain ⟨i0, hi, hz0, hz1, hz2⟩ := info_parts infoB
  have hml : n + m ≤ maxLen := by unfold maxLen; unfold maxRg at hm; omega
  have hmb : (n + m) * 32 ≤ 140737488355328 := by unfold maxRg at hm; omega
  obtain ⟨v', w', hr, h2, h3, h4, h5⟩ := run_append_own_at (P := Try.prog) w B 74 o.type 63 i0 (.agg #[.bool false, .slice none 0 0]) 2 32 Try.underlying74 hi hz0 hz1 hz2 rfl (by decide) (.slice A n c) n (fl2 ps) h.own ad m c2 (fl2 qs) (by rw [fl2_length, hq]) hnews (fl2_one qs) hml hmb hb
  obtain ⟨A', c', rfl, hr2, hbw⟩ := run_append_B h hP hq hk hnews hm hb h2 h3 h5
  unfold Oper.wp execOp
  simp only [ho, resolve, invoke, builtin, Sem.run_bind, Sem.run_pure, Result.andThen_ok, List.map_toArray, List.map_cons, List.map_nil, hs, hx, hr]
  exact hh _ _ _ hr2 hbw h3
theorem BRow.fr {w w' : World} {B n c : Nat} {A : Option Addr} {ps : List Bg} (h : BRow w B (Fr B w) A n c ps) (hb : Below w.heap.size w w') : BRow w' B (Fr B w') A n c ps :=
  (h.keep hb (fun b hb => hb.2)).wide (fun b hb2 => ⟨hb2.1, Nat.lt_of_lt_of_le hb2.2 hb.size⟩)
/-- a range of the call's own is appended: the slice that holds it has been built -/
theorem wpList_app1B {ops : Array Oper} {rest : List Oper} {o : Oper} {a : Act} {Q : Exit → Act → World → Prop} {wr w3 : World} {B n c : Nat} {A : Option Addr} {ps : List Bg} {q : Bg}
    (hgd : o.guard = none) (s x : Operand) (ho : o.op = .call { callee := .builtin .append, args := #[s, x], argTypes := #[74, 74] })
    (hs : a.eval s = .slice A n c) (hx : a.eval x = .slice (some ⟨w3.heap.size, 0, none⟩) 1 1)
    (hrow : BRow wr B (Fr B wr) A n c ps) (hB : B ≤ wr.heap.size) (hw : Below wr.heap.size wr w3) (hf : Bg.At w3 (fun b => (B ≤ b ∧ b < w3.heap.size) ∧ (Value.slice A n c).ownBlock ≠ some b) q) (hm : n + 1 ≤ maxRg)
    (hh : ∀ A' c' w', BRow w' B (Fr B w') A' (n + 1) c' (ps ++ [q]) → Below B wr w' → wr.heap.size ≤ w'.heap.size → wpList Try.prog ops Q rest (a.put o.dst (.slice A' (n + 1) c')) w') :
    wpList Try.prog ops Q (o :: rest) a (w3.alloc (.cells (cells2 q).toArray 63)) := by
  have hb6 : Below w3.heap.size w3 (w3.alloc (.cells (cells2 q).toArray 63)) := (Below.refl _ _).alloc (Nat.le_refl _) _
  have hbw := hw.trans (hb6.mono hw.size)
  have hrow6 := BRow.fr hrow hbw
  have hnews := heap_alloc_new w3 (.cells (cells2 q).toArray 63)
  have hnw : ∀ j u, (fl2 [q])[j]? = some u → (w3.alloc (.cells (cells2 q).toArray 63)).cell? ((⟨w3.heap.size, 0, none⟩ : Addr).add j) = some u := fun j u hj => by
    rw [add_zero', cell_of_row _ w3.heap.size j _ _ (0, 0) hnews, ← hj]
    simp [fl2]
  have hkid : Bg.At (w3.alloc (.cells (cells2 q).toArray 63)) (fun b' => (B ≤ b' ∧ b' < (w3.alloc (.cells (cells2 q).toArray 63)).heap.size) ∧ (Value.slice A n c).ownBlock ≠ some b') q := hf.keep (fun b' hb => ⟨⟨⟨hb.1.1, Nat.lt_of_lt_of_le hb.1.2 hb6.size⟩, hb.2⟩, hb6.block b' hb.1.2⟩)
  generalize w3.alloc (.cells (cells2 q).toArray 63) = w6 at *
  refine wpList_append_B hgd s x ho [q] hs hrow6 (fun b hb => hb.2) ⟨w3.heap.size, 0, none⟩ 1 1 hx rfl (fun y hy => by rw [List.mem_singleton.1 hy]; exact hkid) hnw hm (by have := hbw.size; omega) ?_
  intro A' c' w' hr hb hg
  exact hh A' c' w' (hr.wide (fun b hb2 => ⟨hb2.1, Nat.lt_of_lt_of_le hb2.2 hg.size⟩)) ((hbw.mono hB).trans hb) (Nat.le_trans hbw.size hg.size)
theorem BRow.apart {w w3 : World} {B n c lo : Nat} {A : Option Addr} {ps : List Bg} {P : Nat → Prop} {q : Bg} (h : BRow w B P A n c ps) (hB : B ≤ w.heap.size) (hl : w.heap.size ≤ lo) (hq : Bg.At w3 (fun x => lo ≤ x ∧ x < w3.heap.size) q) : Bg.At w3 (fun b => (B ≤ b ∧ b < w3.heap.size) ∧ (Value.slice A n c).ownBlock ≠ some b) q :=
  hq.keep fun b hb => ⟨⟨⟨by omega, hb.2⟩, by
    rcases h.block with ⟨h1, _⟩ | ⟨g1, h1, h2, h3, h4⟩
    · subst h1; simp [Value.ownBlock]
    · rw [h4]; intro e; injection e with e; omega⟩, rfl⟩
theorem step_app1B {o : Oper} {a : Act} {K : Act → World → Prop} {Q : Exit → Act → World → Prop} {wr w3 : World} {B n c : Nat} {A : Option Addr} {ps : List Bg} {q : Bg}
    (hgd : o.guard = none) (s x : Operand) (ho : o.op = .call { callee := .builtin .append, args := #[s, x], argTypes := #[74, 74] })
    (hs : a.eval s = .slice A n c) (hx : a.eval x = .slice (some ⟨w3.heap.size, 0, none⟩) 1 1)
    (hrow : BRow wr B (Fr B wr) A n c ps) (hB : B ≤ wr.heap.size) (hw : Below wr.heap.size wr w3) (hf : Bg.At w3 (fun b => (B ≤ b ∧ b < w3.heap.size) ∧ (Value.slice A n c).ownBlock ≠ some b) q) (hm : n + 1 ≤ maxRg)
    (hh : ∀ A' c' w', BRow w' B (Fr B w') A' (n + 1) c' (ps ++ [q]) → Below B wr w' → wr.heap.size ≤ w'.heap.size → K (a.put o.dst (.slice A' (n + 1) c')) w') :
    Oper.wp Try.prog o a (w3.alloc (.cells (cells2 q).toArray 63)) K Q := by
  have hb6 : Below w3.heap.size w3 (w3.alloc (.cells (cells2 q).toArray 63)) := (Below.refl _ _).alloc (Nat.le_refl _) _
  have hbw := hw.trans (hb6.mono hw.size)
  have hrow6 := BRow.fr hrow hbw
  have hnews := heap_alloc_new w3 (.cells (cells2 q).toArray 63)
  have hnw : ∀ j u, (fl2 [q])[j]? = some u → (w3.alloc (.cells (cells2 q).toArray 63)).cell? ((⟨w3.heap.size, 0, none⟩ : Addr).add j) = some u := fun j u hj => by
    rw [add_zero', cell_of_row _ w3.heap.size j _ _ (0, 0) hnews, ← hj]
    simp [fl2]
  have hkid : Bg.At (w3.alloc (.cells (cells2 q).toArray 63)) (fun b' => (B ≤ b' ∧ b' < (w3.alloc (.cells (cells2 q).toArray 63)).heap.size) ∧ (Value.slice A n c).ownBlock ≠ some b') q := hf.keep (fun b' hb => ⟨⟨⟨hb.1.1, Nat.lt_of_lt_of_le hb.1.2 hb6.size⟩, hb.2⟩, hb6.block b' hb.1.2⟩)
  generalize w3.alloc (.cells (cells2 q).toArray 63) = w6 at *
  refine step_append_B hgd s x ho [q] hs hrow6 (fun b hb => hb.2) ⟨w3.heap.size, 0, none⟩ 1 1 hx rfl (fun y hy => by rw [List.mem_singleton.1 hy]; exact hkid) hnw hm (by have := hbw.size; omega) ?_
  intro A' c' w' hr hb hg
  exact hh A' c' w' (hr.wide (fun b hb2 => ⟨hb2.1, Nat.lt_of_lt_of_le hb2.2 hg.size⟩)) ((hbw.mono hB).trans hb) (Nat.le_trans hbw.size hg.size)
section
variable {w w' : World} {B g : Nat} {P : Nat → Prop} {n c : Nat} {ps : List Bg}
theorem BRow.frozen (h : BRow w B P (some ⟨g, 0, none⟩) n c ps) (j : Nat) : w.frozen? ⟨g, j, none⟩ = false := by
  rcases h.own.2 with ⟨h1, _⟩ | ⟨g', cap, cur, h1, h2, h3, _⟩
  · cases h1
  · injection h1 with a b c
    injection a with a
    injection a with a
    subst a
    simp [World.frozen?, h3]
theorem BRow.ne (h : BRow w B P (some ⟨g, 0, none⟩) n c ps) {p : Bg} (hp : Bg.At w (fun b => P b ∧ (Value.slice (some ⟨g, 0, none⟩) n c).ownBlock ≠ some b) p) (hg : w.grownBy w' (some g)) (hP : ∀ b, P b → b < w.heap.size) : Bg.At w' (fun b => P b ∧ (Value.slice (some ⟨g, 0, none⟩) n c).ownBlock ≠ some b) p :=
  hp.keep fun b hb => ⟨hb, hg.block b (hP b hb.1) (fun e => hb.2 e.symm)⟩
theorem fl2_set {ps : List Bg} {i : Nat} {p : Bg} (q : Bg) (hi : ps[i]? = some p) :
    fl2 (ps.set i q) = ((fl2 ps).set (i * 2) (.bool (decide (q.z < 0)))).set (i * 2 + 1) (.slice q.A q.n q.c) := by
  have hil : i < ps.length := (List.getElem?_eq_some_iff.1 hi).1
  have hlen : (fl2 ps).length = ps.length * 2 := fl2_length ps
  apply List.ext_getElem?
  intro t
  by_cases ht : t < ps.length * 2
  · have hm : t % 2 < 2 := Nat.mod_lt _ (by omega)
    have hq : t / 2 < ps.length := by omega
    have e : t / 2 * 2 + t % 2 = t := by omega
    by_cases h : t / 2 = i
    · have h1 := fl2_get (ps := ps.set i q) (i := i) (j := t % 2) (p := q) (by simp [hil]) hm
      rw [← h, e] at h1
      rw [h] at h1
      rw [h1]
      have h6 : t = i * 2 ∨ t = i * 2 + 1 := by omega
      rcases h6 with rfl | rfl
      all_goals
        simp only [List.getElem?_set, List.length_set, hlen]
        simp [cells2, Nat.mul_add_mod, hil]
        try omega
    · have h1 := fl2_get (ps := ps.set i q) (i := t / 2) (j := t % 2) (p := ps[t / 2]) (by rw [List.getElem?_set_ne (Ne.symm h)]; simp [hq]) hm
      have h2 := fl2_get (ps := ps) (i := t / 2) (j := t % 2) (p := ps[t / 2]) (by simp [hq]) hm
      rw [e] at h1 h2
      rw [h1, ← h2]
      have n0 : i * 2 ≠ t := by omega
      have n1 : i * 2 + 1 ≠ t := by omega
      rw [List.getElem?_set_ne n1, List.getElem?_set_ne n0]
  · rw [List.getElem?_eq_none (by rw [fl2_length, List.length_set]; omega), List.getElem?_eq_none (by simp only [List.length_set]; omega)]
/-- a number is stored -/
theorem BRow.put2 (h : BRow w B P (some ⟨g, 0, none⟩) n c ps) (hP : ∀ b, P b → b < w.heap.size) {i : Nat} {p : Bg} (hi : ps[i]? = some p) {q : Bg} (hq : Bg.At w (fun b => P b ∧ (Value.slice (some ⟨g, 0, none⟩) n c).ownBlock ≠ some b) q) :
    BRow ((w.setCell ⟨g, i * 2, none⟩ (.bool (decide (q.z < 0)))).setCell ⟨g, i * 2 + 1, none⟩ (.slice q.A q.n q.c)) B P (some ⟨g, 0, none⟩) n c (ps.set i q) ∧
    w.grownBy ((w.setCell ⟨g, i * 2, none⟩ (.bool (decide (q.z < 0)))).setCell ⟨g, i * 2 + 1, none⟩ (.slice q.A q.n q.c)) (some g) := by
  have hgr := gb_setCell (gb_setCell (g := g) (gb_refl w _) (i * 2) (.bool (decide (q.z < 0)))) (i * 2 + 1) (.slice q.A q.n q.c)
  refine ⟨⟨?_, fun p' hp' => ?_⟩, hgr⟩
  · rw [fl2_set q hi]
    exact own_set (own_set h.own _ _) _ _
  · refine BRow.ne h ?_ hgr hP
    rcases List.mem_or_eq_of_mem_set hp' with h1 | h1
    · exact h.kid p' h1
    · rw [h1]; exact hq
end
theorem BRow.cells_at {w : World} {B g n c : Nat} {P : Nat → Prop} {ps : List Bg} (h : BRow w B P (some ⟨g, 0, none⟩) n c ps) {k : Nat} {p : Bg} (hk : ps[k]? = some p) :
    w.cell? ⟨g, k * 2, none⟩ = some (.bool (decide (p.z < 0))) ∧ w.cell? ⟨g, k * 2 + 1, none⟩ = some (.slice p.A p.n p.c) := by
  have key : ∀ j u, j < 2 → (cells2 p)[j]? = some u → w.cell? ⟨g, k * 2 + j, none⟩ = some u := fun j u hj hu => by
    have := World.ownsRow.cells h.own (g := g) rfl (k * 2 + j) u ((fl2_get hk hj).trans hu)
    rwa [add_zero'] at this
  exact ⟨key 0 _ (by omega) rfl, key 1 _ (by omega) rfl⟩
theorem BRow.some_ {w : World} {B n c : Nat} {P : Nat → Prop} {A : Option Addr} {ps : List Bg} (h : BRow w B P A n c ps) (hn : 0 < n) : ∃ g, A = some ⟨g, 0, none⟩ ∧ B ≤ g ∧ g < w.heap.size ∧ (Value.slice A n c).ownBlock = some g := by
  rcases h.block with ⟨_, h1⟩ | h1
  · omega
  · exact h1
theorem wpList_app1PB {ops : Array Oper} {rest : List Oper} {o : Oper} {a : Act} {Q : Exit → Act → World → Prop} {w3 : World} {P : Nat → Prop} {B n c : Nat} {A : Option Addr} {ps : List Bg} {q : Bg}
    (hgd : o.guard = none) (s x : Operand) (ho : o.op = .call { callee := .builtin .append, args := #[s, x], argTypes := #[74, 74] })
    (hs : a.eval s = .slice A n c) (hx : a.eval x = .slice (some ⟨w3.heap.size, 0, none⟩) 1 1)
    (hrow : BRow w3 B (Or P B w3) A n c ps) (hB : B ≤ w3.heap.size) (hP : ∀ b, P b → b < B) (hf : Bg.At w3 (fun b => Or P B w3 b ∧ (Value.slice A n c).ownBlock ≠ some b) q) (hm : n + 1 ≤ maxRg)
    (hh : ∀ A' c' w', BRow w' B (Or P B w') A' (n + 1) c' (ps ++ [q]) → Below B w3 w' → w3.heap.size ≤ w'.heap.size → (∀ b, b < w3.heap.size → (Value.slice A n c).ownBlock ≠ some b → w'.heap[b]? = w3.heap[b]?) → wpList Try.prog ops Q rest (a.put o.dst (.slice A' (n + 1) c')) w') :
    wpList Try.prog ops Q (o :: rest) a (w3.alloc (.cells (cells2 q).toArray 63)) := by
  have hb6 : Below w3.heap.size w3 (w3.alloc (.cells (cells2 q).toArray 63)) := (Below.refl _ _).alloc (Nat.le_refl _) _
  have hlt : ∀ b, Or P B w3 b → b < w3.heap.size := fun b hb => hb.elim (fun k => by have := hP b k; omega) (·.2)
  have hrow6 := (hrow.keep hb6 hlt).wide (Q := Or P B (w3.alloc (.cells (cells2 q).toArray 63))) (fun b hb => hb.imp id (fun k => ⟨k.1, Nat.lt_of_lt_of_le k.2 hb6.size⟩))
  have hnews := heap_alloc_new w3 (.cells (cells2 q).toArray 63)
  have hnw : ∀ j u, (fl2 [q])[j]? = some u → (w3.alloc (.cells (cells2 q).toArray 63)).cell? ((⟨w3.heap.size, 0, none⟩ : Addr).add j) = some u := fun j u hj => by
    rw [add_zero', cell_of_row _ w3.heap.size j _ _ (0, 0) hnews, ← hj]
    simp [fl2]
  have hkid : Bg.At (w3.alloc (.cells (cells2 q).toArray 63)) (fun b' => Or P B (w3.alloc (.cells (cells2 q).toArray 63)) b' ∧ (Value.slice A n c).ownBlock ≠ some b') q := hf.keep (fun b' hb => ⟨⟨hb.1.imp id (fun k => ⟨k.1, Nat.lt_of_lt_of_le k.2 hb6.size⟩), hb.2⟩, hb6.block b' (hlt b' hb.1)⟩)
  have hlt6 : ∀ b, Or P B (w3.alloc (.cells (cells2 q).toArray 63)) b → b < (w3.alloc (.cells (cells2 q).toArray 63)).heap.size := fun b hb => hb.elim (fun k => by have := hP b k; have := hb6.size; omega) (·.2)
  have hz6 := hb6.size
  generalize w3.alloc (.cells (cells2 q).toArray 63) = w6 at *
  refine wpList_append_B hgd s x ho [q] hs hrow6 hlt6 ⟨w3.heap.size, 0, none⟩ 1 1 hx rfl (fun y hy => by rw [List.mem_singleton.1 hy]; exact hkid) hnw hm (by omega) ?_
  intro A' c' w' hr hb hg
  exact hh A' c' w' (hr.wide (fun b hb2 => hb2.imp id (fun k => ⟨k.1, Nat.lt_of_lt_of_le k.2 hg.size⟩))) ((hb6.mono hB).trans hb) (Nat.le_trans hz6 hg.size) (fun b k1 k2 => (hg.block b (by omega) (fun e => k2 e.symm)).trans (hb6.block b k1))
theorem step_app1PB {o : Oper} {a : Act} {K : Act → World → Prop} {Q : Exit → Act → World → Prop} {w3 : World} {P : Nat → Prop} {B n c : Nat} {A : Option Addr} {ps : List Bg} {q : Bg}
    (hgd : o.guard = none) (s x : Operand) (ho : o.op = .call { callee := .builtin .append, args := #[s, x], argTypes := #[74, 74] })
    (hs : a.eval s = .slice A n c) (hx : a.eval x = .slice (some ⟨w3.heap.size, 0, none⟩) 1 1)
    (hrow : BRow w3 B (Or P B w3) A n c ps) (hB : B ≤ w3.heap.size) (hP : ∀ b, P b → b < B) (hf : Bg.At w3 (fun b => Or P B w3 b ∧ (Value.slice A n c).ownBlock ≠ some b) q) (hm : n + 1 ≤ maxRg)
    (hh : ∀ A' c' w', BRow w' B (Or P B w') A' (n + 1) c' (ps ++ [q]) → Below B w3 w' → w3.heap.size ≤ w'.heap.size → (∀ b, b < w3.heap.size → (Value.slice A n c).ownBlock ≠ some b → w'.heap[b]? = w3.heap[b]?) → K (a.put o.dst (.slice A' (n + 1) c')) w') :
    Oper.wp Try.prog o a (w3.alloc (.cells (cells2 q).toArray 63)) K Q := by
  have hb6 : Below w3.heap.size w3 (w3.alloc (.cells (cells2 q).toArray 63)) := (Below.refl _ _).alloc (Nat.le_refl _) _
  have hlt : ∀ b, Or P B w3 b → b < w3.heap.size := fun b hb => hb.elim (fun k => by have := hP b k; omega) (·.2)
  have hrow6 := (hrow.keep hb6 hlt).wide (Q := Or P B (w3.alloc (.cells (cells2 q).toArray 63))) (fun b hb => hb.imp id (fun k => ⟨k.1, Nat.lt_of_lt_of_le k.2 hb6.size⟩))
  have hnews := heap_alloc_new w3 (.cells (cells2 q).toArray 63)
  have hnw : ∀ j u, (fl2 [q])[j]? = some u → (w3.alloc (.cells (cells2 q).toArray 63)).cell? ((⟨w3.heap.size, 0, none⟩ : Addr).add j) = some u := fun j u hj => by
    rw [add_zero', cell_of_row _ w3.heap.size j _ _ (0, 0) hnews, ← hj]
    simp [fl2]
  have hkid : Bg.At (w3.alloc (.cells (cells2 q).toArray 63)) (fun b' => Or P B (w3.alloc (.cells (cells2 q).toArray 63)) b' ∧ (Value.slice A n c).ownBlock ≠ some b') q := hf.keep (fun b' hb => ⟨⟨hb.1.imp id (fun k => ⟨k.1, Nat.lt_of_lt_of_le k.2 hb6.size⟩), hb.2⟩, hb6.block b' (hlt b' hb.1)⟩)
  have hlt6 : ∀ b, Or P B (w3.alloc (.cells (cells2 q).toArray 63)) b → b < (w3.alloc (.cells (cells2 q).toArray 63)).heap.size := fun b hb => hb.elim (fun k => by have := hP b k; have := hb6.size; omega) (·.2)
  have hz6 := hb6.size
  generalize w3.alloc (.cells (cells2 q).toArray 63) = w6 at *
  refine step_append_B hgd s x ho [q] hs hrow6 hlt6 ⟨w3.heap.size, 0, none⟩ 1 1 hx rfl (fun y hy => by rw [List.mem_singleton.1 hy]; exact hkid) hnw hm (by omega) ?_
  intro A' c' w' hr hb hg
  exact hh A' c' w' (hr.wide (fun b hb2 => hb2.imp id (fun k => ⟨k.1, Nat.lt_of_lt_of_le k.2 hg.size⟩))) ((hb6.mono hB).trans hb) (Nat.le_trans hz6 hg.size) (fun b k1 k2 => (hg.block b (by omega) (fun e => k2 e.symm)).trans (hb6.block b k1))
theorem wpList_app1PS {ops : Array Oper} {rest : List Oper} {o : Oper} {a : Act} {Q : Exit → Act → World → Prop} {w3 : World} {P : Nat → Prop} {B n c : Nat} {A : Option Addr} {ps : List Rg} {q : Rg}
    (hgd : o.guard = none) (s x : Operand) (ho : o.op = .call { callee := .builtin .append, args := #[s, x], argTypes := #[28, 28] })
    (hs : a.eval s = .slice A n c) (hx : a.eval x = .slice (some ⟨w3.heap.size, 0, none⟩) 1 1)
    (hrow : SRow w3 B (Or P B w3) A n c ps) (hB : B ≤ w3.heap.size) (hP : ∀ b, P b → b < B) (hf : Sg w3 (fun b => Or P B w3 b ∧ (Value.slice A n c).ownBlock ≠ some b) q) (hm : n + 1 ≤ maxRg)
    (hh : ∀ A' c' w', SRow w' B (Or P B w') A' (n + 1) c' (ps ++ [q]) → Below B w3 w' → w3.heap.size ≤ w'.heap.size → (∀ b, b < w3.heap.size → (Value.slice A n c).ownBlock ≠ some b → w'.heap[b]? = w3.heap[b]?) → wpList Try.prog ops Q rest (a.put o.dst (.slice A' (n + 1) c')) w') :
    wpList Try.prog ops Q (o :: rest) a (w3.alloc (.cells (cells6 q).toArray 68)) := by
  have hb6 : Below w3.heap.size w3 (w3.alloc (.cells (cells6 q).toArray 68)) := (Below.refl _ _).alloc (Nat.le_refl _) _
  have hlt : ∀ b, Or P B w3 b → b < w3.heap.size := fun b hb => hb.elim (fun k => by have := hP b k; omega) (·.2)
  have hrow6 := (hrow.keep hb6 hlt).wide (Q := Or P B (w3.alloc (.cells (cells6 q).toArray 68))) (fun b hb => hb.imp id (fun k => ⟨k.1, Nat.lt_of_lt_of_le k.2 hb6.size⟩))
  have hnews := heap_alloc_new w3 (.cells (cells6 q).toArray 68)
  have hnw : ∀ j u, (fl6 [q])[j]? = some u → (w3.alloc (.cells (cells6 q).toArray 68)).cell? ((⟨w3.heap.size, 0, none⟩ : Addr).add j) = some u := fun j u hj => by
    rw [add_zero', cell_of_row _ w3.heap.size j _ _ (0, 0) hnews, ← hj]
    simp [fl6]
  have hkid : Sg (w3.alloc (.cells (cells6 q).toArray 68)) (fun b' => Or P B (w3.alloc (.cells (cells6 q).toArray 68)) b' ∧ (Value.slice A n c).ownBlock ≠ some b') q := hf.keep (fun b' hb => ⟨⟨hb.1.imp id (fun k => ⟨k.1, Nat.lt_of_lt_of_le k.2 hb6.size⟩), hb.2⟩, hb6.block b' (hlt b' hb.1)⟩)
  have hlt6 : ∀ b, Or P B (w3.alloc (.cells (cells6 q).toArray 68)) b → b < (w3.alloc (.cells (cells6 q).toArray 68)).heap.size := fun b hb => hb.elim (fun k => by have := hP b k; have := hb6.size; omega) (·.2)
  have hz6 := hb6.size
  generalize w3.alloc (.cells (cells6 q).toArray 68) = w6 at *
  refine wpList_append_S hgd s x ho [q] hs hrow6 hlt6 ⟨w3.heap.size, 0, none⟩ 1 1 hx rfl (fun y hy => by rw [List.mem_singleton.1 hy]; exact hkid) hnw hm (by omega) ?_
  intro A' c' w' hr hb hg
  exact hh A' c' w' (hr.wide (fun b hb2 => hb2.imp id (fun k => ⟨k.1, Nat.lt_of_lt_of_le k.2 hg.size⟩))) ((hb6.mono hB).trans hb) (Nat.le_trans hz6 hg.size) (fun b k1 k2 => (hg.block b (by omega) (fun e => k2 e.symm)).trans (hb6.block b k1))
theorem step_app1PS {o : Oper} {a : Act} {K : Act → World → Prop} {Q : Exit → Act → World → Prop} {w3 : World} {P : Nat → Prop} {B n c : Nat} {A : Option Addr} {ps : List Rg} {q : Rg}
    (hgd : o.guard = none) (s x : Operand) (ho : o.op = .call { callee := .builtin .append, args := #[s, x], argTypes := #[28, 28] })
    (hs : a.eval s = .slice A n c) (hx : a.eval x = .slice (some ⟨w3.heap.size, 0, none⟩) 1 1)
    (hrow : SRow w3 B (Or P B w3) A n c ps) (hB : B ≤ w3.heap.size) (hP : ∀ b, P b → b < B) (hf : Sg w3 (fun b => Or P B w3 b ∧ (Value.slice A n c).ownBlock ≠ some b) q) (hm : n + 1 ≤ maxRg)
    (hh : ∀ A' c' w', SRow w' B (Or P B w') A' (n + 1) c' (ps ++ [q]) → Below B w3 w' → w3.heap.size ≤ w'.heap.size → (∀ b, b < w3.heap.size → (Value.slice A n c).ownBlock ≠ some b → w'.heap[b]? = w3.heap[b]?) → K (a.put o.dst (.slice A' (n + 1) c')) w') :
    Oper.wp Try.prog o a (w3.alloc (.cells (cells6 q).toArray 68)) K Q := by
  have hb6 : Below w3.heap.size w3 (w3.alloc (.cells (cells6 q).toArray 68)) := (Below.refl _ _).alloc (Nat.le_refl _) _
  have hlt : ∀ b, Or P B w3 b → b < w3.heap.size := fun b hb => hb.elim (fun k => by have := hP b k; omega) (·.2)
  have hrow6 := (hrow.keep hb6 hlt).wide (Q := Or P B (w3.alloc (.cells (cells6 q).toArray 68))) (fun b hb => hb.imp id (fun k => ⟨k.1, Nat.lt_of_lt_of_le k.2 hb6.size⟩))
  have hnews := heap_alloc_new w3 (.cells (cells6 q).toArray 68)
  have hnw : ∀ j u, (fl6 [q])[j]? = some u → (w3.alloc (.cells (cells6 q).toArray 68)).cell? ((⟨w3.heap.size, 0, none⟩ : Addr).add j) = some u := fun j u hj => by
    rw [add_zero', cell_of_row _ w3.heap.size j _ _ (0, 0) hnews, ← hj]
    simp [fl6]
  have hkid : Sg (w3.alloc (.cells (cells6 q).toArray 68)) (fun b' => Or P B (w3.alloc (.cells (cells6 q).toArray 68)) b' ∧ (Value.slice A n c).ownBlock ≠ some b') q := hf.keep (fun b' hb => ⟨⟨hb.1.imp id (fun k => ⟨k.1, Nat.lt_of_lt_of_le k.2 hb6.size⟩), hb.2⟩, hb6.block b' (hlt b' hb.1)⟩)
  have hlt6 : ∀ b, Or P B (w3.alloc (.cells (cells6 q).toArray 68)) b → b < (w3.alloc (.cells (cells6 q).toArray 68)).heap.size := fun b hb => hb.elim (fun k => by have := hP b k; have := hb6.size; omega) (·.2)
  have hz6 := hb6.size
  generalize w3.alloc (.cells (cells6 q).toArray 68) = w6 at *
  refine step_append_S hgd s x ho [q] hs hrow6 hlt6 ⟨w3.heap.size, 0, none⟩ 1 1 hx rfl (fun y hy => by rw [List.mem_singleton.1 hy]; exact hkid) hnw hm (by omega) ?_
  intro A' c' w' hr hb hg
  exact hh A' c' w' (hr.wide (fun b hb2 => hb2.imp id (fun k => ⟨k.1, Nat.lt_of_lt_of_le k.2 hg.size⟩))) ((hb6.mono hB).trans hb) (Nat.le_trans hz6 hg.size) (fun b k1 k2 => (hg.block b (by omega) (fun e => k2 e.symm)).trans (hb6.block b k1))
theorem BRow.up {w w' : World} {B n c : Nat} {P : Nat → Prop} {A : Option Addr} {ps : List Bg} (h : BRow w B (Or P B w) A n c ps) (hB : B ≤ w.heap.size) (hP : ∀ b, P b → b < B) (hb : Below w.heap.size w w') : BRow w' B (Or P B w') A n c ps :=
  (h.keep hb (fun b hb => hb.elim (fun k => by have := hP b k; omega) (·.2))).wide (fun b hb2 => hb2.imp id (fun k => ⟨k.1, Nat.lt_of_lt_of_le k.2 hb.size⟩))
theorem SRow.up {w w' : World} {B n c : Nat} {P : Nat → Prop} {A : Option Addr} {ps : List Rg} (h : SRow w B (Or P B w) A n c ps) (hB : B ≤ w.heap.size) (hP : ∀ b, P b → b < B) (hb : Below w.heap.size w w') : SRow w' B (Or P B w') A n c ps :=
  (h.keep hb (fun b hb => hb.elim (fun k => by have := hP b k; omega) (·.2))).wide (fun b hb2 => hb2.imp id (fun k => ⟨k.1, Nat.lt_of_lt_of_le k.2 hb.size⟩))
/-- memory below or behind a row is not the row's -/
theorem BRow.ne_old {w : World} {B n c x : Nat} {P : Nat → Prop} {A : Option Addr} {ps : List Bg} (h : BRow w B P A n c ps) (hx : x < B ∨ w.heap.size ≤ x) : (Value.slice A n c).ownBlock ≠ some x := by
  rcases h.block with ⟨h1, _⟩ | ⟨g1, h1, h2, h3, h4⟩
  · subst h1; simp [Value.ownBlock]
  · rw [h4]; intro e; injection e with e; omega
theorem SRow.ne_old {w : World} {B n c x : Nat} {P : Nat → Prop} {A : Option Addr} {ps : List Rg} (h : SRow w B P A n c ps) (hx : x < B ∨ w.heap.size ≤ x) : (Value.slice A n c).ownBlock ≠ some x := by
  rcases h.block with ⟨h1, _⟩ | ⟨g1, h1, h2, h3, h4⟩
  · subst h1; simp [Value.ownBlock]
  · rw [h4]; intro e; injection e with e; omega
end Go.Proofs.Ytpikjceodmepiaa

