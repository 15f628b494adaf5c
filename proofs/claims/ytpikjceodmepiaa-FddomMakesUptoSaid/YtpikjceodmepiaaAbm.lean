import Derived.Test.YtpikjceodmepiaaAam
import Derived.Test.YtpikjceodmepiaaYum
set_option linter.unusedVariables false
set_option linter.unusedSimpArgs false
namespace Go.Proofs.Ytpikjceodmepiaa
open Go.RowKit Hb Hf
set_option linter.unusedVariables false
set_option linter.unusedSimpArgs false
/-! ### the reference's ends and spans in memory: as the program's, of bits -/
structure LimB (w : World) (P : Nat → Prop) (A : Option Addr) (n c : Nat) (l : List Nat) : Prop where
  len : l.length = n
  cap : n ≤ c
  max : c ≤ maxLen
  dig : Dig 2 l
  rd : l ≠ [] → ∃ b o, A = some ⟨b, o, none⟩ ∧ P b ∧ ∀ i v, (i64s l)[i]? = some v → w.cell? ⟨b, o + i, none⟩ = some v
section
variable {w w' : World} {P Q : Nat → Prop} {A : Option Addr} {n c B : Nat} {l : List Nat}
theorem LimB.keep (h : LimB w P A n c l) (hb : ∀ b, P b → Q b ∧ w'.heap[b]? = w.heap[b]?) : LimB w' Q A n c l :=
  ⟨h.len, h.cap, h.max, h.dig, fun hl => by
    obtain ⟨b, o, e, hp, hc⟩ := h.rd hl
    exact ⟨b, o, e, (hb b hp).1, fun i v hv => (World.cell?_of_block (a := ⟨b, o + i, none⟩) (hb b hp).2).trans (hc i v hv)⟩⟩
theorem LimB.wide (h : LimB w P A n c l) (hb : ∀ b, P b → Q b) : LimB w Q A n c l := h.keep fun b hp => ⟨hb b hp, rfl⟩
theorem i64s_nil_iff {l : List Nat} : i64s l ≠ [] ↔ l ≠ [] := by cases l <;> simp [i64s]
theorem LimB.sl (h : LimB w P A n c l) (hb : ∀ b, P b → b < B) : SlI w B A n c l :=
  ⟨h.len, h.cap, h.max, h.dig, fun hx => by
    obtain ⟨b, o, e, hp, hc⟩ := h.rd (i64s_nil_iff.1 hx)
    exact ⟨b, o, e, hb b hp, hc⟩⟩
theorem LimB.of_sl (h : SlI w B A n c l) : LimB w (fun b => b < B) A n c l :=
  ⟨h.len, h.cap, h.max, h.dig, fun hx => h.rd (i64s_nil_iff.2 hx)⟩
theorem LimB.of_own (h : OwnI w B A n c (i64s l)) (hd : Dig 2 l) : LimB w (fun b => B ≤ b ∧ b < w.heap.size) A n c l := by
  have hl : l.length = n := by rw [← i64s_length]; exact h.length
  refine ⟨hl, h.cap.1, h.cap.2, hd, fun hx => ?_⟩
  have hn : 0 < n := by rw [← hl]; exact List.length_pos_iff.2 hx
  obtain ⟨g, rfl, h1, h2⟩ := h.at_ hn
  refine ⟨g, 0, rfl, ⟨h1, h2⟩, fun i v hi => ?_⟩
  have := World.ownsRow.cells h (g := g) rfl i v hi
  rw [add_zero' g i] at this
  rw [Nat.zero_add]; exact this
theorem LimB.nil (w : World) (P : Nat → Prop) (A : Option Addr) {c : Nat} (hc : c ≤ maxLen) : LimB w P A 0 c [] := ⟨rfl, Nat.zero_le _, hc, Dig.nil _, fun h => absurd rfl h⟩
end

def Bd.z2 (b : Bd) : Int := bval b.g b.l
def Bd.ed2 (b : Bd) : Ed := if b.i < 0 then .lo else if 0 < b.i then .hi else .num b.z2
/-- an end as the reference has it -/
def rb : Ed → Option Addr → Nat → Bd
  | .lo, _, _ => ⟨-1, false, none, 0, 0, []⟩
  | .num z, A, c => ⟨0, decide (z < 0), A, (digs 2 z.natAbs).length, c, digs 2 z.natAbs⟩
  | .hi, _, _ => ⟨1, false, none, 0, 0, []⟩
theorem rb_ed (e : Ed) (A : Option Addr) (c : Nat) : (rb e A c).ed2 = e := by
  cases e with
  | lo => simp [rb, Bd.ed2]
  | num z =>
    show (if (0 : Int) < 0 then _ else if (0 : Int) < 0 then _ else Ed.num (Bd.z2 (rb (.num z) A c))) = _
    rw [if_neg (by omega), if_neg (by omega)]
    show Ed.num (bval (decide (z < 0)) (digs 2 z.natAbs)) = _
    rw [bval_digs]
  | hi => simp [rb, Bd.ed2]
/-- an end in memory: normal, its bits not too many to reckon with -/
structure Sb (w : World) (P : Nat → Prop) (e : Ed) (b : Bd) : Prop where
  lim : LimB w P b.A b.n b.c b.l
  is : ∃ A c, b = rb e A c
  sm : b.n ≤ 1000000000
theorem Sb.keep {w w' : World} {P Q : Nat → Prop} {e : Ed} {b : Bd} (h : Sb w P e b) (hb : ∀ x, P x → Q x ∧ w'.heap[x]? = w.heap[x]?) : Sb w' Q e b := ⟨h.lim.keep hb, h.is, h.sm⟩
theorem Sb.wide {w : World} {P Q : Nat → Prop} {e : Ed} {b : Bd} (h : Sb w P e b) (hb : ∀ x, P x → Q x) : Sb w Q e b := h.keep fun x hp => ⟨hb x hp, rfl⟩
theorem Sb.ed {w : World} {P : Nat → Prop} {e : Ed} {b : Bd} (h : Sb w P e b) : b.ed2 = e := by
  obtain ⟨A, c, rfl⟩ := h.is
  exact rb_ed e A c
def edsS (p : Rg) : R := (p.1.ed2, p.2.ed2)
structure Sg (w : World) (P : Nat → Prop) (p : Rg) : Prop where
  a : Sb w P p.1.ed2 p.1
  b : Sb w P p.2.ed2 p.2
theorem Sg.keep {w w' : World} {P Q : Nat → Prop} {p : Rg} (h : Sg w P p) (hb : ∀ x, P x → Q x ∧ w'.heap[x]? = w.heap[x]?) : Sg w' Q p := ⟨h.a.keep hb, h.b.keep hb⟩
/-- a set that reads -/
structure RefS (w : World) (P : Nat → Prop) (A : Option Addr) (n c : Nat) (ps : List Rg) : Prop where
  row : RdR w P A n c ps
  kid : ∀ p ∈ ps, Sg w P p
theorem RefS.keep {w w' : World} {P Q : Nat → Prop} {A : Option Addr} {n c : Nat} {ps : List Rg} (h : RefS w P A n c ps) (hb : ∀ b, P b → Q b ∧ w'.heap[b]? = w.heap[b]?) : RefS w' Q A n c ps :=
  ⟨h.row.keep hb, fun p hp => (h.kid p hp).keep hb⟩
theorem RefS.wide {w : World} {P Q : Nat → Prop} {A : Option Addr} {n c : Nat} {ps : List Rg} (h : RefS w P A n c ps) (hb : ∀ b, P b → Q b) : RefS w Q A n c ps := h.keep fun b hp => ⟨hb b hp, rfl⟩
theorem RefS.nil (w : World) (P : Nat → Prop) : RefS w P none 0 0 [] := ⟨⟨rfl, Nat.le_refl _, by simp [maxLen], fun h => absurd rfl h⟩, fun p hp => by cases hp⟩
theorem infoS : (Try.prog.info? 68).map (fun i => (i.zero, i.size, i.bytes)) = some (some (.agg #[.int .i64 0, .bool false, .slice none 0 0, .int .i64 0, .bool false, .slice none 0 0]), 6, 80) := by kernel_rfl
/-- a slice of the call's own, from block B on: ranges, whose limbs lie in blocks that are P, none of them its own -/
structure SRow (w : World) (B : Nat) (P : Nat → Prop) (A : Option Addr) (n c : Nat) (ps : List Rg) : Prop where
  own : w.ownsRow B 68 6 (.slice A n c) n (fl6 ps)
  kid : ∀ p ∈ ps, Sg w (fun b => P b ∧ (Value.slice A n c).ownBlock ≠ some b) p
section
variable {w w' : World} {B : Nat} {P : Nat → Prop} {A : Option Addr} {n c : Nat} {ps : List Rg}
theorem SRow.len (h : SRow w B P A n c ps) : ps.length = n := by have := h.own.1; rw [fl6_length] at this; omega
theorem SRow.cap (h : SRow w B P A n c ps) : n ≤ c ∧ c ≤ maxLen := by
  rcases h.own.2 with ⟨h1, _⟩ | ⟨g, cap, cur, h1, h2, h3, h4, h5, _⟩
  · injection h1 with a b c; subst b; subst c; exact ⟨Nat.le_refl _, by simp [maxLen]⟩
  · injection h1 with a b c; subst c; exact ⟨h4, h5⟩
theorem SRow.nil (w : World) (B : Nat) (P : Nat → Prop) : SRow w B P none 0 0 [] := ⟨⟨rfl, .inl ⟨rfl, rfl⟩⟩, fun p hp => by cases hp⟩
/-- its own block -/
theorem SRow.block (h : SRow w B P A n c ps) : (A = none ∧ n = 0) ∨ ∃ g, A = some ⟨g, 0, none⟩ ∧ B ≤ g ∧ g < w.heap.size ∧ (Value.slice A n c).ownBlock = some g := by
  rcases h.own.2 with ⟨h1, _⟩ | ⟨g, cap, cur, h1, h2, h3, _⟩
  · injection h1 with a b c; exact .inl ⟨a, b⟩
  · injection h1 with a b c
    subst a
    exact .inr ⟨g, rfl, h2, (Array.getElem?_eq_some_iff.1 h3).1, rfl⟩
theorem SRow.wide {Q : Nat → Prop} (h : SRow w B P A n c ps) (hP : ∀ b, P b → Q b) : SRow w B Q A n c ps :=
  ⟨h.own, fun p hp => (h.kid p hp).keep (fun b hb2 => ⟨⟨hP b hb2.1, hb2.2⟩, rfl⟩)⟩
theorem SRow.lower {B' : Nat} (h : SRow w B P A n c ps) (hB : B' ≤ B) : SRow w B' P A n c ps := by
  refine ⟨⟨h.own.1, ?_⟩, h.kid⟩
  rcases h.own.2 with h1 | ⟨g, cap, cur, h1, h2, h3⟩
  · exact .inl h1
  · exact .inr ⟨g, cap, cur, h1, Nat.le_trans hB h2, h3⟩
theorem SRow.keepP (h : SRow w B P A n c ps) (hb : ∀ b, B ≤ b → b < w.heap.size → w'.heap[b]? = w.heap[b]?) (hP : ∀ b, P b → w'.heap[b]? = w.heap[b]?) : SRow w' B P A n c ps := by
  refine ⟨⟨h.own.1, ?_⟩, fun p hp => (h.kid p hp).keep (fun b hb2 => ⟨hb2, hP b hb2.1⟩)⟩
  rcases h.own.2 with h1 | ⟨g, cap, cur, h1, h2, h3, h4⟩
  · exact .inl h1
  · exact .inr ⟨g, cap, cur, h1, h2, (hb g h2 (Array.getElem?_eq_some_iff.1 h3).1).trans h3, h4⟩
theorem SRow.keep (h : SRow w B P A n c ps) (hb : Below w.heap.size w w') (hP : ∀ b, P b → b < w.heap.size) : SRow w' B P A n c ps :=
  h.keepP (fun b _ hb2 => hb.block b hb2) (fun b hp => hb.block b (hP b hp))
/-- it reads as a set -/
theorem SRow.set (h : SRow w B P A n c ps) (hP : ∀ b, B ≤ b → b < w.heap.size → P b) : RefS w P A n c ps := by
  refine ⟨⟨h.len, h.cap.1, h.cap.2, fun hl => ?_⟩, fun p hp => (h.kid p hp).keep fun b hb => ⟨hb.1, rfl⟩⟩
  have hn0 : 0 < n := by rw [← h.len]; exact List.length_pos_iff.2 hl
  rcases h.block with ⟨_, h0⟩ | ⟨g, rfl, hB, hg, _⟩
  · omega
  · refine ⟨g, 0, rfl, hP g hB hg, fun i v hv => ?_⟩
    have h9 := World.ownsRow.cells h.own (g := g) rfl _ _ hv
    rw [add_zero'] at h9
    rw [Nat.zero_add]
    exact h9
end
/-- append of ranges, at a step of a drawn region -/
theorem run_append_S {w : World} {B : Nat} {P : Nat → Prop} {A : Option Addr} {n c : Nat} {ps qs : List Rg} (h : SRow w B P A n c ps) (hP : ∀ b, P b → b < w.heap.size) {ad : Addr} {m : Nat} (hq : qs.length = m)
    (hk : ∀ q ∈ qs, Sg w (fun b => P b ∧ (Value.slice A n c).ownBlock ≠ some b) q) (hnews : ∀ j u, (fl6 qs)[j]? = some u → w.cell? (ad.add j) = some u) (hm : n + m ≤ maxRg) (hb : B ≤ w.heap.size)
    {v' : Value} {w' : World} (ho : w'.ownsRow B 68 6 v' (n + m) (fl6 ps ++ fl6 qs)) (hg : w.grownBy w' (Value.slice A n c).ownBlock) (hv : v'.ownBlock = (Value.slice A n c).ownBlock ∨ v'.ownBlock = some w.heap.size) :
    ∃ A' c', v' = .slice A' (n + m) c' ∧ SRow w' B P A' (n + m) c' (ps ++ qs) ∧ Below B w w' := by
  have hf : ∃ A' c', v' = .slice A' (n + m) c' := by
    rcases ho.2 with ⟨h1, h2⟩ | ⟨g', cap, cur, h1, _⟩
    · exact ⟨none, 0, by rw [h1, h2]⟩
    · exact ⟨_, cap, h1⟩
  obtain ⟨A', c', rfl⟩ := hf
  refine ⟨A', c', rfl, ⟨by rw [fl6_append]; exact ho, fun p hp => ?_⟩, ⟨hg.os, hg.tape, hg.output, hg.size, fun j hj => hg.block j (Nat.lt_of_lt_of_le hj hb) (fun e2 => ?_)⟩⟩
  · have hkid : Sg w (fun b => P b ∧ (Value.slice A n c).ownBlock ≠ some b) p := by
      rcases List.mem_append.1 hp with hp | hp
      · exact h.kid p hp
      · exact hk p hp
    refine hkid.keep (fun b hb2 => ⟨⟨hb2.1, ?_⟩, hg.block b (hP b hb2.1) (fun e => hb2.2 e.symm)⟩)
    rcases hv with hv | hv
    · rw [hv]; exact hb2.2
    · rw [hv]; intro e; have := hP b hb2.1; injection e with e; omega
  · rcases h.block with ⟨h1, _⟩ | ⟨g, h1, h2, h3, h4⟩
    · subst h1; simp [Value.ownBlock] at e2
    · rw [h4] at e2; injection e2 with e2; omega
theorem wpList_append_S {ops : Array Oper} {rest : List Oper} {o : Oper} {a : Act} {Q : Exit → Act → World → Prop} {w : World} (hgd : o.guard = none) (s x : Operand)
    (ho : o.op = .call { callee := .builtin .append, args := #[s, x], argTypes := #[28, 28] })
    {B : Nat} {P : Nat → Prop} {A : Option Addr} {n c : Nat} {ps : List Rg} (qs : List Rg) (hs : a.eval s = .slice A n c) (h : SRow w B P A n c ps) (hP : ∀ b, P b → b < w.heap.size)
    (ad : Addr) (m c2 : Nat) (hx : a.eval x = .slice (some ad) m c2) (hq : qs.length = m) (hk : ∀ q ∈ qs, Sg w (fun b => P b ∧ (Value.slice A n c).ownBlock ≠ some b) q) (hnews : ∀ j u, (fl6 qs)[j]? = some u → w.cell? (ad.add j) = some u)
    (hm : n + m ≤ maxRg) (hb : B ≤ w.heap.size)
    (hh : ∀ A' c' w', SRow w' B P A' (n + m) c' (ps ++ qs) → Below B w w' → w.grownBy w' (Value.slice A n c).ownBlock → wpList Try.prog ops Q rest (a.put o.dst (.slice A' (n + m) c')) w') :
    wpList Try.prog ops Q (o :: rest) a w := by
  obtain ⟨i0, hi, hz0, hz1, hz2⟩ := info_parts infoS
  have hml : n + m ≤ maxLen := by unfold maxLen; unfold maxRg at hm; omega
  have hmb : (n + m) * 80 ≤ 140737488355328 := by unfold maxRg at hm; omega
  refine wpList_append_own_at _ hgd s x 28 ho B 68 i0 (.agg #[.int .i64 0, .bool false, .slice none 0 0, .int .i64 0, .bool false, .slice none 0 0]) 6 80 Try.underlying28 hi hz0 hz1 hz2 rfl (by decide) _ n (fl6 ps) hs h.own ad m c2 (fl6 qs) hx (by rw [fl6_length, hq]) hnews (fl6_one qs) hml hmb hb ?_
  intro v' w' ho' hg _ hv
  obtain ⟨A', c', rfl, hr, hbw⟩ := run_append_S h hP hq hk hnews hm hb ho' hg hv
  exact hh A' c' w' hr hbw hg
theorem step_append_S {o : Oper} {a : Act} {w : World} {K : Act → World → Prop} {Q : Exit → Act → World → Prop} (hgd : o.guard = none) (s x : Operand)
    (ho : o.op = .call { callee := .builtin .append, args := #[s, x], argTypes := #[28, 28] })
    {B : Nat} {P : Nat → Prop} {A : Option Addr} {n c : Nat} {ps : List Rg} (qs : List Rg) (hs : a.eval s = .slice A n c) (h : SRow w B P A n c ps) (hP : ∀ b, P b → b < w.heap.size)
    (ad : Addr) (m c2 : Nat) (hx : a.eval x = .slice (some ad) m c2) (hq : qs.length = m) (hk : ∀ q ∈ qs, Sg w (fun b => P b ∧ (Value.slice A n c).ownBlock ≠ some b) q) (hnews : ∀ j u, (fl6 qs)[j]? = some u → w.cell? (ad.add j) = some u)
    (hm : n + m ≤ maxRg) (hb : B ≤ w.heap.size)
    (hh : ∀ A' c' w', SRow w' B P A' (n + m) c' (ps ++ qs) → Below B w w' → w.grownBy w' (Value.slice A n c).ownBlock → K (a.put o.dst (.slice A' (n + m) c')) w') :
    Oper.wp Try.prog o a w K Q := by
  obtain ⟨i0, hi, hz0, hz1, hz2⟩ := info_parts infoS
  have hml : n + m ≤ maxLen := by unfold maxLen; unfold maxRg at hm; omega
  have hmb : (n + m) * 80 ≤ 140737488355328 := by unfold maxRg at hm; omega
  obtain ⟨v', w', hr, h2, h3, h4, h5⟩ := run_append_own_at (P := Try.prog) w B 28 o.type 68 i0 (.agg #[.int .i64 0, .bool false, .slice none 0 0, .int .i64 0, .bool false, .slice none 0 0]) 6 80 Try.underlying28 hi hz0 hz1 hz2 rfl (by decide) (.slice A n c) n (fl6 ps) h.own ad m c2 (fl6 qs) (by rw [fl6_length, hq]) hnews (fl6_one qs) hml hmb hb
  obtain ⟨A', c', rfl, hr2, hbw⟩ := run_append_S h hP hq hk hnews hm hb h2 h3 h5
  unfold Oper.wp execOp
  simp only [ho, resolve, invoke, builtin, Sem.run_bind, Sem.run_pure, Result.andThen_ok, List.map_toArray, List.map_cons, List.map_nil, hs, hx, hr]
  exact hh _ _ _ hr2 hbw h3
theorem SRow.fr {w w' : World} {B n c : Nat} {A : Option Addr} {ps : List Rg} (h : SRow w B (Fr B w) A n c ps) (hb : Below w.heap.size w w') : SRow w' B (Fr B w') A n c ps :=
  (h.keep hb (fun b hb => hb.2)).wide (fun b hb2 => ⟨hb2.1, Nat.lt_of_lt_of_le hb2.2 hb.size⟩)
/-- a range of the call's own is appended: the slice that holds it has been built -/
theorem wpList_app1S {ops : Array Oper} {rest : List Oper} {o : Oper} {a : Act} {Q : Exit → Act → World → Prop} {wr w3 : World} {B n c : Nat} {A : Option Addr} {ps : List Rg} {q : Rg}
    (hgd : o.guard = none) (s x : Operand) (ho : o.op = .call { callee := .builtin .append, args := #[s, x], argTypes := #[28, 28] })
    (hs : a.eval s = .slice A n c) (hx : a.eval x = .slice (some ⟨w3.heap.size, 0, none⟩) 1 1)
    (hrow : SRow wr B (Fr B wr) A n c ps) (hB : B ≤ wr.heap.size) (hw : Below wr.heap.size wr w3) (hf : Sg w3 (fun b => (B ≤ b ∧ b < w3.heap.size) ∧ (Value.slice A n c).ownBlock ≠ some b) q) (hm : n + 1 ≤ maxRg)
    (hh : ∀ A' c' w', SRow w' B (Fr B w') A' (n + 1) c' (ps ++ [q]) → Below B wr w' → wr.heap.size ≤ w'.heap.size → wpList Try.prog ops Q rest (a.put o.dst (.slice A' (n + 1) c')) w') :
    wpList Try.prog ops Q (o :: rest) a (w3.alloc (.cells (cells6 q).toArray 68)) := by
  have hb6 : Below w3.heap.size w3 (w3.alloc (.cells (cells6 q).toArray 68)) := (Below.refl _ _).alloc (Nat.le_refl _) _
  have hbw := hw.trans (hb6.mono hw.size)
  have hrow6 := SRow.fr hrow hbw
  have hnews := heap_alloc_new w3 (.cells (cells6 q).toArray 68)
  have hnw : ∀ j u, (fl6 [q])[j]? = some u → (w3.alloc (.cells (cells6 q).toArray 68)).cell? ((⟨w3.heap.size, 0, none⟩ : Addr).add j) = some u := fun j u hj => by
    rw [add_zero', cell_of_row _ w3.heap.size j _ _ (0, 0) hnews, ← hj]
    simp [fl6]
  have hkid : Sg (w3.alloc (.cells (cells6 q).toArray 68)) (fun b' => (B ≤ b' ∧ b' < (w3.alloc (.cells (cells6 q).toArray 68)).heap.size) ∧ (Value.slice A n c).ownBlock ≠ some b') q := hf.keep (fun b' hb => ⟨⟨⟨hb.1.1, Nat.lt_of_lt_of_le hb.1.2 hb6.size⟩, hb.2⟩, hb6.block b' hb.1.2⟩)
  generalize w3.alloc (.cells (cells6 q).toArray 68) = w6 at *
  refine wpList_append_S hgd s x ho [q] hs hrow6 (fun b hb => hb.2) ⟨w3.heap.size, 0, none⟩ 1 1 hx rfl (fun y hy => by rw [List.mem_singleton.1 hy]; exact hkid) hnw hm (by have := hbw.size; omega) ?_
  intro A' c' w' hr hb hg
  exact hh A' c' w' (hr.wide (fun b hb2 => ⟨hb2.1, Nat.lt_of_lt_of_le hb2.2 hg.size⟩)) ((hbw.mono hB).trans hb) (Nat.le_trans hbw.size hg.size)
theorem SRow.apart {w w3 : World} {B n c lo : Nat} {A : Option Addr} {ps : List Rg} {P : Nat → Prop} {q : Rg} (h : SRow w B P A n c ps) (hB : B ≤ w.heap.size) (hl : w.heap.size ≤ lo) (hq : Sg w3 (fun x => lo ≤ x ∧ x < w3.heap.size) q) : Sg w3 (fun b => (B ≤ b ∧ b < w3.heap.size) ∧ (Value.slice A n c).ownBlock ≠ some b) q :=
  hq.keep fun b hb => ⟨⟨⟨by omega, hb.2⟩, by
    rcases h.block with ⟨h1, _⟩ | ⟨g1, h1, h2, h3, h4⟩
    · subst h1; simp [Value.ownBlock]
    · rw [h4]; intro e; injection e with e; omega⟩, rfl⟩
theorem step_app1S {o : Oper} {a : Act} {K : Act → World → Prop} {Q : Exit → Act → World → Prop} {wr w3 : World} {B n c : Nat} {A : Option Addr} {ps : List Rg} {q : Rg}
    (hgd : o.guard = none) (s x : Operand) (ho : o.op = .call { callee := .builtin .append, args := #[s, x], argTypes := #[28, 28] })
    (hs : a.eval s = .slice A n c) (hx : a.eval x = .slice (some ⟨w3.heap.size, 0, none⟩) 1 1)
    (hrow : SRow wr B (Fr B wr) A n c ps) (hB : B ≤ wr.heap.size) (hw : Below wr.heap.size wr w3) (hf : Sg w3 (fun b => (B ≤ b ∧ b < w3.heap.size) ∧ (Value.slice A n c).ownBlock ≠ some b) q) (hm : n + 1 ≤ maxRg)
    (hh : ∀ A' c' w', SRow w' B (Fr B w') A' (n + 1) c' (ps ++ [q]) → Below B wr w' → wr.heap.size ≤ w'.heap.size → K (a.put o.dst (.slice A' (n + 1) c')) w') :
    Oper.wp Try.prog o a (w3.alloc (.cells (cells6 q).toArray 68)) K Q := by
  have hb6 : Below w3.heap.size w3 (w3.alloc (.cells (cells6 q).toArray 68)) := (Below.refl _ _).alloc (Nat.le_refl _) _
  have hbw := hw.trans (hb6.mono hw.size)
  have hrow6 := SRow.fr hrow hbw
  have hnews := heap_alloc_new w3 (.cells (cells6 q).toArray 68)
  have hnw : ∀ j u, (fl6 [q])[j]? = some u → (w3.alloc (.cells (cells6 q).toArray 68)).cell? ((⟨w3.heap.size, 0, none⟩ : Addr).add j) = some u := fun j u hj => by
    rw [add_zero', cell_of_row _ w3.heap.size j _ _ (0, 0) hnews, ← hj]
    simp [fl6]
  have hkid : Sg (w3.alloc (.cells (cells6 q).toArray 68)) (fun b' => (B ≤ b' ∧ b' < (w3.alloc (.cells (cells6 q).toArray 68)).heap.size) ∧ (Value.slice A n c).ownBlock ≠ some b') q := hf.keep (fun b' hb => ⟨⟨⟨hb.1.1, Nat.lt_of_lt_of_le hb.1.2 hb6.size⟩, hb.2⟩, hb6.block b' hb.1.2⟩)
  generalize w3.alloc (.cells (cells6 q).toArray 68) = w6 at *
  refine step_append_S hgd s x ho [q] hs hrow6 (fun b hb => hb.2) ⟨w3.heap.size, 0, none⟩ 1 1 hx rfl (fun y hy => by rw [List.mem_singleton.1 hy]; exact hkid) hnw hm (by have := hbw.size; omega) ?_
  intro A' c' w' hr hb hg
  exact hh A' c' w' (hr.wide (fun b hb2 => ⟨hb2.1, Nat.lt_of_lt_of_le hb2.2 hg.size⟩)) ((hbw.mono hB).trans hb) (Nat.le_trans hbw.size hg.size)
def SBox (w : World) (g : Nat) (p : Rg) : Prop := w.heap[g]? = some (.cells (cells6 p).toArray 68 (0, 0))
def NBox (w : World) (g : Nat) (b : Bd) : Prop := w.heap[g]? = some (.cells b.vals.toArray 65 (0, 0))
section
variable {w w' : World} {g : Nat} {p q : Rg} {b d : Bd}
theorem SBox.lt (h : SBox w g p) : g < w.heap.size := (Array.getElem?_eq_some_iff.1 h).1
theorem NBox.lt (h : NBox w g b) : g < w.heap.size := (Array.getElem?_eq_some_iff.1 h).1
theorem SBox.below (h : SBox w g p) (hb : Below w.heap.size w w') : SBox w' g p := (hb.block g h.lt).trans h
theorem NBox.below (h : NBox w g b) (hb : Below w.heap.size w w') : NBox w' g b := (hb.block g h.lt).trans h
theorem SBox.far (h : SBox w g p) {x : Addr} (hp : g ≠ x.block) (u : Value) : SBox (w.setCell x u) g p := (Below.heap_setCell w x u g hp).trans h
theorem NBox.far (h : NBox w g b) {x : Addr} (hp : g ≠ x.block) (u : Value) : NBox (w.setCell x u) g b := (Below.heap_setCell w x u g hp).trans h
theorem SBox.gro {N : Nat} (h : SBox w g p) (hg : w.grownBy w' (some N)) (hn : g ≠ N) : SBox w' g p := (hg.block g h.lt (fun e => by injection e with e; exact hn e)).trans h
theorem NBox.gro {N : Nat} (h : NBox w g b) (hg : w.grownBy w' (some N)) (hn : g ≠ N) : NBox w' g b := (hg.block g h.lt (fun e => by injection e with e; exact hn e)).trans h
theorem SBox.new (w : World) (p : Rg) : SBox (w.alloc (.cells (cells6 p).toArray 68)) w.heap.size p := heap_alloc_new w _
theorem NBox.new (w : World) (b : Bd) : NBox (w.alloc (.cells b.vals.toArray 65)) w.heap.size b := heap_alloc_new w _
theorem SBox.cells (h : SBox w g p) : w.cell? ⟨g, 0, none⟩ = some (.int .i64 p.1.i) ∧ w.cell? ⟨g, 1, none⟩ = some (.bool p.1.g) ∧ w.cell? ⟨g, 2, none⟩ = some (.slice p.1.A p.1.n p.1.c) ∧
    w.cell? ⟨g, 3, none⟩ = some (.int .i64 p.2.i) ∧ w.cell? ⟨g, 4, none⟩ = some (.bool p.2.g) ∧ w.cell? ⟨g, 5, none⟩ = some (.slice p.2.A p.2.n p.2.c) := by
  refine ⟨?_, ?_, ?_, ?_, ?_, ?_⟩ <;> (rw [cell_of_row w g _ _ _ (0, 0) h]; rfl)
theorem NBox.cells (h : NBox w g b) : w.cell? ⟨g, 0, none⟩ = some (.int .i64 b.i) ∧ w.cell? ⟨g, 1, none⟩ = some (.bool b.g) ∧ w.cell? ⟨g, 2, none⟩ = some (.slice b.A b.n b.c) := by
  refine ⟨?_, ?_, ?_⟩ <;> (rw [cell_of_row w g _ _ _ (0, 0) h]; rfl)
theorem SBox.frozen (h : SBox w g p) (j : Nat) : w.frozen? ⟨g, j, none⟩ = false := by unfold SBox at h; simp [World.frozen?, h]
theorem NBox.frozen (h : NBox w g b) (j : Nat) : w.frozen? ⟨g, j, none⟩ = false := by unfold NBox at h; simp [World.frozen?, h]
theorem SBox.frozens (h : SBox w g p) : w.frozen? ⟨g, 0, none⟩ = false ∧ w.frozen? ⟨g, 1, none⟩ = false ∧ w.frozen? ⟨g, 2, none⟩ = false ∧ w.frozen? ⟨g, 3, none⟩ = false ∧ w.frozen? ⟨g, 4, none⟩ = false ∧ w.frozen? ⟨g, 5, none⟩ = false :=
  ⟨h.frozen 0, h.frozen 1, h.frozen 2, h.frozen 3, h.frozen 4, h.frozen 5⟩
theorem NBox.frozens (h : NBox w g b) : w.frozen? ⟨g, 0, none⟩ = false ∧ w.frozen? ⟨g, 1, none⟩ = false ∧ w.frozen? ⟨g, 2, none⟩ = false := ⟨h.frozen 0, h.frozen 1, h.frozen 2⟩
theorem NBox.set3 (h : NBox w g b) (d : Bd) :
    NBox (((w.setCell ⟨g, 0, none⟩ (.int .i64 d.i)).setCell ⟨g, 1, none⟩ (.bool d.g)).setCell ⟨g, 2, none⟩ (.slice d.A d.n d.c)) g d ∧
    w.grownBy (((w.setCell ⟨g, 0, none⟩ (.int .i64 d.i)).setCell ⟨g, 1, none⟩ (.bool d.g)).setCell ⟨g, 2, none⟩ (.slice d.A d.n d.c)) (some g) := by
  refine ⟨?_, gb_setCell (gb_setCell (gb_setCell (gb_refl _ _) _ _) _ _) _ _⟩
  unfold NBox at h ⊢
  simp [World.setCell, Array.getElem?_modify, h, Bd.vals]
theorem SBox.set6 (h : SBox w g p) (q : Rg) :
    SBox ((((((w.setCell ⟨g, 0, none⟩ (.int .i64 q.1.i)).setCell ⟨g, 1, none⟩ (.bool q.1.g)).setCell ⟨g, 2, none⟩ (.slice q.1.A q.1.n q.1.c)).setCell ⟨g, 3, none⟩ (.int .i64 q.2.i)).setCell ⟨g, 4, none⟩ (.bool q.2.g)).setCell ⟨g, 5, none⟩ (.slice q.2.A q.2.n q.2.c)) g q ∧
    w.grownBy ((((((w.setCell ⟨g, 0, none⟩ (.int .i64 q.1.i)).setCell ⟨g, 1, none⟩ (.bool q.1.g)).setCell ⟨g, 2, none⟩ (.slice q.1.A q.1.n q.1.c)).setCell ⟨g, 3, none⟩ (.int .i64 q.2.i)).setCell ⟨g, 4, none⟩ (.bool q.2.g)).setCell ⟨g, 5, none⟩ (.slice q.2.A q.2.n q.2.c)) (some g) := by
  refine ⟨?_, gb_setCell (gb_setCell (gb_setCell (gb_setCell (gb_setCell (gb_setCell (gb_refl _ _) _ _) _ _) _ _) _ _) _ _) _ _⟩
  unfold SBox at h ⊢
  simp [World.setCell, Array.getElem?_modify, h, Bd.vals, cells6]
end
end Go.Proofs.Ytpikjceodmepiaa

