import Derived.Test.YtpikjceodmepiaaAom
set_option linter.unusedVariables false
set_option linter.unusedSimpArgs false
namespace Go.Proofs.Ytpikjceodmepiaa
open Go.RowKit Hb Hf
set_option linter.unusedVariables false
set_option linter.unusedSimpArgs false
attribute [local go_sem ↓] Go.wp_at_zero Go.wp_at_succ
/-! ### the law's copied: a list in memory of its own, marks behind all -/
theorem step_app1P {o : Oper} {a : Act} {K : Act → World → Prop} {Q : Exit → Act → World → Prop} {w3 : World} {P : Nat → Prop} {B n c : Nat} {A : Option Addr} {ps : List Rg} {q : Rg}
    (hgd : o.guard = none) (s x : Operand) (ho : o.op = .call { callee := .builtin .append, args := #[s, x], argTypes := #[22, 22] })
    (hs : a.eval s = .slice A n c) (hx : a.eval x = .slice (some ⟨w3.heap.size, 0, none⟩) 1 1)
    (hrow : RRow w3 B (Or P B w3) A n c ps) (hB : B ≤ w3.heap.size) (hP : ∀ b, P b → b < B) (hf : Rg.At w3 (fun b => Or P B w3 b ∧ (Value.slice A n c).ownBlock ≠ some b) q) (hm : n + 1 ≤ maxRg)
    (hh : ∀ A' c' w', RRow w' B (Or P B w') A' (n + 1) c' (ps ++ [q]) → Below B w3 w' → w3.heap.size ≤ w'.heap.size → (∀ b, b < w3.heap.size → (Value.slice A n c).ownBlock ≠ some b → w'.heap[b]? = w3.heap[b]?) → K (a.put o.dst (.slice A' (n + 1) c')) w') :
    Oper.wp Try.prog o a (w3.alloc (.cells (cells6 q).toArray 41)) K Q := by
  have hb6 : Below w3.heap.size w3 (w3.alloc (.cells (cells6 q).toArray 41)) := (Below.refl _ _).alloc (Nat.le_refl _) _
  have hlt : ∀ b, Or P B w3 b → b < w3.heap.size := fun b hb => hb.elim (fun k => by have := hP b k; omega) (·.2)
  have hrow6 := (hrow.keep hb6 hlt).wide (Q := Or P B (w3.alloc (.cells (cells6 q).toArray 41))) (fun b hb => hb.imp id (fun k => ⟨k.1, Nat.lt_of_lt_of_le k.2 hb6.size⟩))
  have hnews := heap_alloc_new w3 (.cells (cells6 q).toArray 41)
  have hnw : ∀ j u, (fl6 [q])[j]? = some u → (w3.alloc (.cells (cells6 q).toArray 41)).cell? ((⟨w3.heap.size, 0, none⟩ : Addr).add j) = some u := fun j u hj => by
    rw [add_zero', cell_of_row _ w3.heap.size j _ _ (0, 0) hnews, ← hj]
    simp [fl6]
  have hkid : Rg.At (w3.alloc (.cells (cells6 q).toArray 41)) (fun b' => Or P B (w3.alloc (.cells (cells6 q).toArray 41)) b' ∧ (Value.slice A n c).ownBlock ≠ some b') q := hf.keep (fun b' hb => ⟨⟨hb.1.imp id (fun k => ⟨k.1, Nat.lt_of_lt_of_le k.2 hb6.size⟩), hb.2⟩, hb6.block b' (hlt b' hb.1)⟩)
  have hlt6 : ∀ b, Or P B (w3.alloc (.cells (cells6 q).toArray 41)) b → b < (w3.alloc (.cells (cells6 q).toArray 41)).heap.size := fun b hb => hb.elim (fun k => by have := hP b k; have := hb6.size; omega) (·.2)
  have hz6 := hb6.size
  generalize w3.alloc (.cells (cells6 q).toArray 41) = w6 at *
  refine step_append_R hgd s x ho [q] hs hrow6 hlt6 ⟨w3.heap.size, 0, none⟩ 1 1 hx rfl (fun y hy => by rw [List.mem_singleton.1 hy]; exact hkid) hnw hm (by omega) ?_
  intro A' c' w' hr hb hg
  exact hh A' c' w' (hr.wide (fun b hb2 => hb2.imp id (fun k => ⟨k.1, Nat.lt_of_lt_of_le k.2 hg.size⟩))) ((hb6.mono hB).trans hb) (Nat.le_trans hz6 hg.size) (fun b k1 k2 => (hg.block b (by omega) (fun e => k2 e.symm)).trans (hb6.block b k1))
/-- the mark behind the limbs -/
def Mk (w : World) (b : Bd) : Prop := ∃ x cur fz, b.A = some ⟨x, 0, none⟩ ∧ w.heap[x]? = some (.cells cur 73 fz) ∧ b.n + 1 ≤ b.c ∧ b.c ≤ maxLen ∧ w.cell? ⟨x, b.n, none⟩ = some (.int .u32 77)
theorem Mk.keep {w w' : World} {b : Bd} (h : Mk w b) (hb : ∀ x cur fz, b.A = some ⟨x, 0, none⟩ → w.heap[x]? = some (.cells cur 73 fz) → w'.heap[x]? = w.heap[x]?) : Mk w' b := by
  obtain ⟨x, cur, fz, h1, h2, h3, h4, h5⟩ := h
  have h6 := hb x cur fz h1 h2
  exact ⟨x, cur, fz, h1, h6.trans h2, h3, h4, (World.cell?_of_block (a := ⟨x, b.n, none⟩) h6).trans h5⟩
theorem Mk.below {w w' : World} {b : Bd} (h : Mk w b) (hb : Below w.heap.size w w') : Mk w' b :=
  h.keep fun x cur fz _ h2 => hb.block x (Array.getElem?_eq_some_iff.1 h2).1
theorem bound_mk {w w' : World} {b : Bd} {A : Option Addr} {c : Nat} (hl : b.l.length = b.n) (hd : Dig W b.l) (h1 : -9223372036854775808 ≤ b.i) (h2 : b.i ≤ 9223372036854775807) (h : OwnU w' w.heap.size A (b.n + 1) c (u32s (b.l ++ [77]))) :
    Bd.At w' (Fr w.heap.size w') ⟨b.i, b.g, A, b.n, c, b.l⟩ ∧ Mk w' ⟨b.i, b.g, A, b.n, c, b.l⟩ := by
  have hd77 : Dig W (b.l ++ [77]) := hd.append (fun x hx => by rw [List.mem_singleton.1 hx]; show (77 : Nat) < 4294967296; omega)
  have h3 := (LimP.of_own h hd77).take (k := b.n) (by omega)
  rw [List.take_left' hl] at h3
  refine ⟨⟨h3, h1, h2⟩, ?_⟩
  have hcap := h.cap
  obtain ⟨x, rfl, hx1, hx2⟩ := h.at_ (by omega)
  have hcl := World.ownsRow.cells h (g := x) rfl b.n (.int .u32 77) (by
    unfold u32s
    rw [List.map_append, List.getElem?_append_right (by rw [List.length_map, hl]; exact Nat.le_refl _), List.length_map, hl, Nat.sub_self]
    rfl)
  rw [add_zero'] at hcl
  rcases h.2 with ⟨e1, _⟩ | ⟨g', cap, cur, e1, e2, e3, _⟩
  · cases e1
  · injection e1 with a b2 c2
    injection a with a
    injection a with a
    subst a
    exact ⟨x, cur, _, rfl, e3, hcap.1, hcap.2, hcl⟩
theorem RRow.ne_u32 {w : World} {B n c X : Nat} {P : Nat → Prop} {A : Option Addr} {ps : List Rg} {cur : Array Value} {fz : Nat × Nat} (h : RRow w B P A n c ps) (hx : w.heap[X]? = some (.cells cur 73 fz)) : (Value.slice A n c).ownBlock ≠ some X := by
  rcases h.own.2 with ⟨h1, _⟩ | ⟨g1, cap, cur', h1, h2, h3, h4⟩
  · injection h1 with a b c; subst a; simp [Value.ownBlock]
  · intro e
    injection h1 with a b c
    subst a
    have e2 : g1 = X := by
      simp only [Value.ownBlock] at e
      injection e
    subst e2
    rw [hx] at h3
    injection h3 with h3
    injection h3 with _ h5 _
    revert h5
    decide
/-- like parts, and the mark -/
def CpB (w : World) (a b : Bd) : Prop := SmB a b ∧ a.n = b.n ∧ Mk w b
structure CL (w : World) (B : Nat) (ps : List Rg) (k : Nat) (A : Option Addr) (c : Nat) (qs : List Rg) (wr : World) : Prop where
  bel : Below B w wr
  le : B ≤ wr.heap.size
  row : RRow wr B (Or (fun _ => False) B wr) A k c qs
  cp : ∀ (j : Nat) (p q : Rg), ps[j]? = some p → qs[j]? = some q → CpB wr p.1 q.1 ∧ CpB wr p.2 q.2
theorem RRow.up' {w w' : World} {B n c : Nat} {P : Nat → Prop} {A : Option Addr} {ps : List Rg} (h : RRow w B (Or P B w) A n c ps) (hB : B ≤ w.heap.size) (hP : ∀ b, P b → b < B) (hb : Below w.heap.size w w') : RRow w' B (Or P B w') A n c ps :=
  (h.keep hb (fun b hb => hb.elim (fun k => by have := hP b k; omega) (·.2))).wide (fun b hb2 => hb2.imp id (fun k => ⟨k.1, Nat.lt_of_lt_of_le k.2 hb.size⟩))
theorem RRow.ne_old {w : World} {B n c x : Nat} {P : Nat → Prop} {A : Option Addr} {ps : List Rg} (h : RRow w B P A n c ps) (hx : x < B ∨ w.heap.size ≤ x) : (Value.slice A n c).ownBlock ≠ some x := by
  rcases h.block with ⟨h1, _⟩ | ⟨g1, h1, h2, h3, h4⟩
  · subst h1; simp [Value.ownBlock]
  · rw [h4]; intro e; injection e with e; omega
theorem CL.below {w wr w' : World} {B k c : Nat} {ps qs : List Rg} {A : Option Addr} (h : CL w B ps k A c qs wr) (hb : Below wr.heap.size wr w') : CL w B ps k A c qs w' :=
  ⟨h.bel.trans (hb.mono h.le), Nat.le_trans h.le hb.size, h.row.up' h.le (fun _ h => h.elim) hb, fun j p q hp hq => by
    obtain ⟨⟨a1, a2, a3⟩, ⟨b1, b2, b3⟩⟩ := h.cp j p q hp hq
    exact ⟨⟨a1, a2, a3.below hb⟩, ⟨b1, b2, b3.below hb⟩⟩⟩
def CopyPostB (B : Nat) (w : World) (ps : List Rg) (n : Nat) (e : Ending) (w' : World) : Prop :=
  ∃ g c qs mk, e = .returned (.slice (some ⟨g, 0, none⟩) n c) ∧ RRow w' B (Or (fun _ => False) B w') (some ⟨g, 0, none⟩) (n + 1) c (qs ++ [mk]) ∧ qs.length = n ∧
    (∀ (j : Nat) (p q : Rg), ps[j]? = some p → qs[j]? = some q → CpB w' p.1 q.1 ∧ CpB w' p.2 q.2) ∧ SmB mk.1 (nb 77 none 0) ∧ SmB mk.2 (nb 78 none 0) ∧ Below B w w'
def CopyPost (w : World) (ps : List Rg) (n : Nat) (e : Ending) (w' : World) : Prop := CopyPostB w.heap.size w ps n e w'
set_option maxRecDepth 100000 in
set_option maxHeartbeats 8000000 in
theorem copied_any {w : World} {P : Nat → Prop} {A : Option Addr} {n c : Nat} {ps : List Rg} (h : SetP w P A n c ps) (hP : ∀ b, P b → b < w.heap.size) (hz : ZnR ps) (hs : ∀ p ∈ ps, p.1.n ≤ 33554432 ∧ p.2.n ≤ 33554432) (hn : n ≤ 1000000000) :
    Calls Try.prog 8 #[.slice A n c] w (CopyPost w ps n) := by
  have HS := Lib.hid h
  have HP := Lib.hid hP
  have HZ := Lib.hid (And.intro hz hs)
  have HLn := Lib.hid h.row.len
  have hcap := h.row.cap
  have hmax := h.row.max
  unfold maxLen at hmax
  obtain ⟨B, hB⟩ : ∃ B, w.heap.size = B := ⟨_, rfl⟩
  have HB := Lib.hid hB
  have HN0 := Lib.hid (show CL w B ps 0 none 0 [] w from ⟨Below.refl _ _, by omega, RRow.nil _ _ _, fun j p q _ hq => by simp at hq⟩)
  unfold CopyPost
  rw [hB]
  clear h hP hz hs hB
  go_enter Try.func8, Try.ntmps8
  go_wp2_with fail
  go_loopw [3, 4] (fun vo vi wr => ∃ k A' c' qs, k ≤ n ∧ vi = .int .i64 (k : Nat) ∧ vo = .slice A' k c' ∧ Hid (CL w B ps k A' c' qs wr)) (fun _ vi _ => n - (intOf vi).toNat)
  case atStart => exact ⟨0, none, 0, [], Nat.zero_le _, rfl, rfl, HN0⟩
  case round =>
    obtain ⟨k, A2, c2, qs, hk, rfl, rfl, HJ⟩ := hrel
    clear HN0
    have HI := Lib.hid (And.intro HJ.out.bel (And.intro HJ.out.le HJ.out.row))
    by_cases hkn : k < n
    · obtain ⟨p, hp⟩ : ∃ p, ps[k]? = some p := ⟨ps[k]'(by have := HLn.out; omega), by simp⟩
      obtain ⟨b, o, rfl, hPb, q0, q1, q2, q3, q4, q5⟩ := HS.out.row.at_ hp
      have hbB : b < B := by have := HP.out b hPb; have := HB.out; omega
      have HKid := Lib.hid (HS.out.kid p (List.mem_of_getElem? hp))
      have HZp := Lib.hid (And.intro (HZ.out.1 p (List.mem_of_getElem? hp)) (HZ.out.2 p (List.mem_of_getElem? hp)))
      have HPk := Lib.hid hp
      have HQ := Lib.hid (And.intro q0 (And.intro q1 (And.intro q2 (And.intro q3 (And.intro q4 q5)))))
      have keepP : ∀ (z : World), Below B w z → ∀ x, P x → P x ∧ z.heap[x]? = w.heap[x]? := fun z hz x hx => ⟨hx, hz.block x (by have := HP.out x hx; have := HB.out; omega)⟩
      have HSh := Lib.hid (fun z (hz : Below B w z) => And.intro (bound_any (w := z) (HKid.out.a.keep (keepP z hz)) (fun x hx => Nat.lt_of_lt_of_le (HP.out x hx) hz.size) HZp.out.1.1 HZp.out.2.1) (bound_any (w := z) (HKid.out.b.keep (keepP z hz)) (fun x hx => Nat.lt_of_lt_of_le (HP.out x hx) hz.size) HZp.out.1.2 HZp.out.2.2))
      have HC1 := Lib.hid (fun (z : World) (j : Nat) (hz : Below B w z) => (World.cell?_of_block (a := ⟨b, j, none⟩) (hz.block b hbB) : z.cell? ⟨b, j, none⟩ = w.cell? ⟨b, j, none⟩))
      have HMk1 := Lib.hid (fun (y y' : World) (A' : Option Addr) (c' : Nat) => bound_mk (w := y) (w' := y') (A := A') (c := c') HKid.out.a.lim.len HKid.out.a.lim.dig HKid.out.a.r1 HKid.out.a.r2)
      have HMk2 := Lib.hid (fun (y y' : World) (A' : Option Addr) (c' : Nat) => bound_mk (w := y) (w' := y') (A := A') (c := c') HKid.out.b.lim.len HKid.out.b.lim.dig HKid.out.b.r1 HKid.out.b.r2)
      obtain ⟨⟨p1i, p1g, p1A, p1n, p1c, p1l⟩, ⟨p2i, p2g, p2A, p2n, p2c, p2l⟩⟩ := p
      simp only [Bd.v, Bd.vals, BoundPost] at HSh HMk1 HMk2
      have hki : (k : Int) < (n : Int) := by omega
      have hk0 : (0 : Int) ≤ (k : Int) := by omega
      clear hp q0 q1 q2 q3 q4 q5 keepP HKid HZp hPb
      go_upto_region 5 with fail
      refine wp_region_HB B (by kernel_rfl) (fun z0 K0 hs0 => ?_)
      have S0 : Below B wr z0 := K0.mono HI.out.2.1
      refine tkH 0 (v := ?tv0_13) S0 rfl (by kernel_rfl) ?tq0_13 (by kernel_rfl) (fun z5 hS => ?ty0_13) ?_
      case ty0_13 => go_simp; rfl
      case tq0_13 => exact fun _ _ _ h => h
      refine tkH 1 (v := ?tv1_14) S0 rfl (by kernel_rfl) ?tq1_14 (by kernel_rfl) (fun z5 hS => ?ty1_14) ?_
      case ty1_14 => go_simp; rfl
      case tq1_14 => exact fun _ _ _ h => h
      refine tkH 2 (v := ?tv2_15) S0 rfl (by kernel_rfl) ?tq2_15 (by kernel_rfl) (fun z5 hS => ?ty2_15) ?_
      case ty2_15 => go_simp; rfl
      case tq2_15 => exact fun _ _ _ h => h
      refine tkH 3 (v := ?tv3_16) S0 rfl (by kernel_rfl) ?tq3_16 (by kernel_rfl) (fun z5 hS => ?ty3_16) ?_
      case ty3_16 => go_simp; rfl
      case tq3_16 => exact fun _ _ _ h => h
      refine tkH 4 (v := ?tv4_17) S0 rfl (by kernel_rfl) ?tq4_17 (by kernel_rfl) (fun z5 hS => ?ty4_17) ?_
      case ty4_17 => go_simp; rfl
      case tq4_17 => exact fun _ _ _ h => h
      refine tkH 5 (v := ?tv5_18) S0 rfl (by kernel_rfl) ?tq5_18 (by kernel_rfl) (fun z5 hS => ?ty5_18) ?_
      case ty5_18 => have g0 := (HC1.out z5 (o + k * 6) (HI.out.1.trans hS)).trans HQ.out.1; have g1 := (HC1.out z5 (o + k * 6 + 1) (HI.out.1.trans hS)).trans HQ.out.2.1; have g2 := (HC1.out z5 (o + k * 6 + 2) (HI.out.1.trans hS)).trans HQ.out.2.2.1; go_simp; rfl
      case tq5_18 => exact fun _ _ _ h => h
      refine tkH 7 (v := ?tv7_19) S0 rfl (by kernel_rfl) ?tq7_19 (by kernel_rfl) (fun z5 hS => ?ty7_19) ?_
      case ty7_19 => go_simp; rfl
      case tq7_19 => exact fun _ _ _ h => h
      refine tkH 8 (v := ?tv8_20) S0 rfl (by kernel_rfl) ?tq8_20 (by kernel_rfl) (fun z5 hS => ?ty8_20) ?_
      case ty8_20 => go_simp; rfl
      case tq8_20 => exact fun _ _ _ h => h
      refine tkH 9 (v := ?tv9_21) S0 rfl (by kernel_rfl) ?tq9_21 (by kernel_rfl) (fun z5 hS => ?ty9_21) ?_
      case ty9_21 => go_simp; rfl
      case tq9_21 => exact fun _ _ _ h => h
      refine tkH 10 (v := ?tv10_22) S0 rfl (by kernel_rfl) ?tq10_22 (by kernel_rfl) (fun z5 hS => ?ty10_22) ?_
      case ty10_22 => go_simp; rfl
      case tq10_22 => exact fun _ _ _ h => h
      refine tkH 11 (v := ?tv11_23) S0 rfl (by kernel_rfl) ?tq11_23 (by kernel_rfl) (fun z5 hS => ?ty11_23) ?_
      case ty11_23 => have g0 := (HC1.out z5 (o + k * 6 + 3) (HI.out.1.trans hS)).trans HQ.out.2.2.2.1; have g1 := (HC1.out z5 (o + k * 6 + 4) (HI.out.1.trans hS)).trans HQ.out.2.2.2.2.1; have g2 := (HC1.out z5 (o + k * 6 + 5) (HI.out.1.trans hS)).trans HQ.out.2.2.2.2.2; go_simp; rfl
      case tq11_23 => exact fun _ _ _ h => h
      refine wpAnyH_one (i := 6) (by kernel_rfl) rfl (by kernel_rfl) (fun K hK => ?_)
      go_simp
      (with_reducible refine (HSh.out _ (HI.out.1.trans S0)).1.mono ?_)
      rintro e z1 ⟨A5, c5, he, ho1, hb1⟩
      simp only [Bd.v, Bd.vals] at he
      subst he
      have K1 := K0.trans (hb1.mono K0.size)
      have S1 : Below B wr z1 := K1.mono HI.out.2.1
      have M1 := Lib.hid (HMk1.out _ _ _ _ ho1)
      clear ho1
      refine hK.out _ _ S1 ?_
      refine wpAnyH_one (i := 12) (by kernel_rfl) rfl (by kernel_rfl) (fun K hK => ?_)
      go_simp
      (with_reducible refine (HSh.out _ (HI.out.1.trans S1)).2.mono ?_)
      rintro e z2 ⟨A6, c6, he, ho2, hb2⟩
      simp only [Bd.v, Bd.vals] at he
      subst he
      have K2 := K1.trans (hb2.mono K1.size)
      have S2 : Below B wr z2 := K2.mono HI.out.2.1
      have M2 := Lib.hid (HMk2.out _ _ _ _ ho2)
      clear ho2
      refine hK.out _ _ S2 ?_
      refine tkH 13 (v := ?tv13_24) S2 rfl (by kernel_rfl) ?tq13_24 (by kernel_rfl) (fun z5 hS => ?ty13_24) ?_
      case ty13_24 => go_simp; rfl
      case tq13_24 => exact fun _ _ _ h => h
      refine wpAnyH_one (i := 14) (by kernel_rfl) rfl (by kernel_rfl) (fun K hK => ?_)
      go_simp
      have S3 : Below B wr (z2.alloc (.cells #[.int .i64 p1i, .bool p1g, .slice A5 p1n c5, .int .i64 p2i, .bool p2g, .slice A6 p2n c6] 41)) := S2.alloc (by have := S2.size; have := HI.out.2.1; omega) _
      refine hK.out _ _ S3 ?_
      refine wpAnyH_one (i := 15) (by kernel_rfl) rfl (by kernel_rfl) (fun K hK => ?_)
      have hsz0 := K0.size
      have hsz1 := hb1.size
      have hsz2 := hb2.size
      have HJ2 := Lib.hid (HJ.out.below K2)
      have HMq := Lib.hid (And.intro (M1.out.2.below hb2) M2.out.2)
      have HAt := Lib.hid (show Rg.At z2 (fun b => Or (fun _ => False) B z2 b ∧ (Value.slice A2 k c2).ownBlock ≠ some b) ((⟨p1i, p1g, A5, p1n, c5, p1l⟩ : Bd), (⟨p2i, p2g, A6, p2n, c6, p2l⟩ : Bd)) from
        ⟨M1.out.1.keep (fun x hx => ⟨⟨.inr ⟨by have := hx.1; have := HI.out.2.1; omega, by have := hx.2; omega⟩, HJ.out.row.ne_old (.inr (by have := hx.1; omega))⟩, hb2.block x hx.2⟩),
         M2.out.1.wide (fun x hx => ⟨.inr ⟨by have := hx.1; have := HI.out.2.1; omega, hx.2⟩, HJ.out.row.ne_old (.inr (by have := hx.1; omega))⟩)⟩)
      refine step_app1P (q := ((⟨p1i, p1g, A5, p1n, c5, p1l⟩ : Bd), (⟨p2i, p2g, A6, p2n, c6, p2l⟩ : Bd))) rfl _ _ rfl (by rfl) (by rfl) HJ2.out.row HJ2.out.le (fun _ h => h.elim) HAt.out (by unfold maxRg; omega) ?_
      intro A7 c7 w9 hr9 hb9 hs9 hx9
      have HR9 := Lib.hid (show CL w B ps (k + 1) A7 c7 (qs ++ [((⟨p1i, p1g, A5, p1n, c5, p1l⟩ : Bd), (⟨p2i, p2g, A6, p2n, c6, p2l⟩ : Bd))]) w9 from ⟨HJ2.out.bel.trans hb9, Nat.le_trans HJ2.out.le hs9, hr9, fun j p q hp hq => by
        have mk : ∀ d : Bd, Mk z2 d → Mk w9 d := fun d hd => hd.keep (fun x cur fz _ h2 => hx9 x (Array.getElem?_eq_some_iff.1 h2).1 (HJ2.out.row.ne_u32 h2))
        by_cases hj : j < k
        · rw [List.getElem?_append_left (by rw [HJ.out.row.len]; exact hj)] at hq
          obtain ⟨⟨a1, a2, a3⟩, ⟨b1, b2, b3⟩⟩ := HJ2.out.cp j p q hp hq
          exact ⟨⟨a1, a2, mk _ a3⟩, ⟨b1, b2, mk _ b3⟩⟩
        · rw [List.getElem?_append_right (by rw [HJ.out.row.len]; omega), HJ.out.row.len] at hq
          have hjk : j = k := by
            have := (List.getElem?_eq_some_iff.1 hq).1
            simp at this
            omega
          subst hjk
          rw [Nat.sub_self] at hq
          simp only [List.getElem?_cons_zero, Option.some.injEq] at hq
          rw [HPk.out] at hp
          injection hp with hp
          subst hp
          subst hq
          exact ⟨⟨⟨rfl, rfl, rfl⟩, rfl, mk _ HMq.out.1⟩, ⟨⟨rfl, rfl, rfl⟩, rfl, mk _ HMq.out.2⟩⟩⟩)
      have HS9 := Lib.hid (show Below B wr w9 from S2.trans hb9)
      clear hr9 hb9 hs9 hx9 hb1 hb2 K1 K2 S0 S1 S2 S3 hs0 K0 hsz0 hsz1 hsz2
      refine hK.out _ _ HS9.out ?_
      refine wpAnyH_one (i := 16) (by kernel_rfl) rfl (by kernel_rfl) (fun K hK => ?_)
      go_simp
      refine hK.out _ _ HS9.out ?_
      refine wpAnyH_end (by kernel_rfl) ?_ _
      go_wp2_with fail
      go_roundw
      case rel => exact ⟨k + 1, A7, c7, _, by omega, by go_num, by go_num, HR9⟩
      case measure => simp [intOf]; omega
    · have hki : ¬ (k : Int) < (n : Int) := by omega
      have hkk : k = n := by omega
      subst hkk
      clear HI
      obtain ⟨z7, hz7⟩ : ∃ z : Int, z = 77 := ⟨_, rfl⟩
      obtain ⟨z8, hz8⟩ : ∃ z : Int, z = 78 := ⟨_, rfl⟩
      have HTo := Lib.hid (show Calls Try.prog 27 #[.int .i64 77, .int .i64 78] wr (RangePost z7 z8 wr) by rw [hz7, hz8]; exact to_ok 77 78 (by omega) (by omega) (by omega) (by omega))
      have HZ7 := Lib.hid (And.intro hz7 hz8)
      clear hz7 hz8
      go_wp2_with fail
      (with_reducible refine HTo.out.mono ?_)
      rintro e w4 ⟨A5, A6, c5, c6, he, hat, hb4⟩
      simp only [rgV, tR, cells6, nb, Bd.vals, List.cons_append, List.nil_append] at he
      subst he
      have HJ4 := Lib.hid (HJ.out.below hb4)
      have HAt := Lib.hid (show Rg.At w4 (fun b => Or (fun _ => False) B w4 b ∧ (Value.slice A2 k c2).ownBlock ≠ some b) (tR z7 z8 A5 A6 c5 c6) from hat.keep (fun b hb => ⟨⟨.inr ⟨by have := hb.1; have := HJ.out.le; omega, hb.2⟩, HJ.out.row.ne_old (.inr hb.1)⟩, rfl⟩))
      simp only [tR] at HAt
      clear hat hb4 HTo
      go_wp2_with (at_builtin; refine wpList_app1P (q := (nb z7 A5 c5, nb z8 A6 c6)) rfl _ _ rfl rfl rfl HJ4.out.row HJ4.out.le (fun _ h => h.elim) HAt.out (by unfold maxRg; omega) ?_; intro A7 c7 w9 hr9 hb9 hs9 hx9; obtain ⟨g7, rfl, hg71, hg72, hob7⟩ := hr9.some_ (by omega); have hcp := hr9.cap; have hc7 : k ≤ c7 := (by omega); have hmx7 := hcp.2; unfold maxLen at hmx7; have HR9 := Lib.hid (And.intro hr9 (And.intro hb9 (And.intro hs9 hx9))); clear hr9 hb9 hs9 hx9 hcp)
      have key : CopyPostB B w ps k (.returned (.slice (some ⟨g7, 0, none⟩) k c7)) w9 := ⟨g7, c7, qs, _, rfl, HR9.out.1, HJ.out.row.len, fun j p q hp hq => by
        have mk : ∀ d : Bd, Mk w4 d → Mk w9 d := fun d hd => hd.keep (fun x cur fz _ h2 => HR9.out.2.2.2 x (Array.getElem?_eq_some_iff.1 h2).1 (HJ4.out.row.ne_u32 h2))
        obtain ⟨⟨a1, a2, a3⟩, ⟨b1, b2, b3⟩⟩ := HJ4.out.cp j p q hp hq
        exact ⟨⟨a1, a2, mk _ a3⟩, ⟨b1, b2, mk _ b3⟩⟩, ⟨rfl, by show decide (z7 < 0) = decide ((77 : Int) < 0); rw [HZ7.out.1], by show digs W z7.natAbs = digs W (77 : Int).natAbs; rw [HZ7.out.1]⟩, ⟨rfl, by show decide (z8 < 0) = decide ((78 : Int) < 0); rw [HZ7.out.2], by show digs W z8.natAbs = digs W (78 : Int).natAbs; rw [HZ7.out.2]⟩, HJ4.out.bel.trans HR9.out.2.1⟩
      exact bodyPost_ret (v := .slice (some ⟨g7, 0, none⟩) k c7) (by simp [results, Try.results8, go_sem]) rfl key
end Go.Proofs.Ytpikjceodmepiaa

