import Derived.Test.YtgfeainpeplphaaDoorJd
import Derived.Deep.Upon
namespace Go.Proofs.YtgfeainpeplphaaDoor
open Go.RowKit Hb Ht
set_option linter.unusedVariables false
set_option linter.unusedSimpArgs false
attribute [local go_sem] Oper.semAt_some
/-! ### append of a row, empty or not -/
theorem run_append_T0 (w : World) (ty : TypeId) (B : Option Addr) (n c : Nat) (h : n ≤ c) (A : Option Addr) (c2 : Nat) :
    (Builtin.append_ #[23, 23] ty #[.slice B n c, .slice A 0 c2]).run Tryd.prog w = .ok (.slice B n c) w := by
  obtain ⟨i0, hi, hz0, hz1, hz2⟩ := info_parts infoT
  cases A with
  | none => exact run_append_nothing w _ _ ty _ i0 Tryd.underlying23 hi B n c h _ (Src.ofNil w Tryd.underlying23 c2)
  | some a => exact run_append_nothing w _ _ ty _ i0 Tryd.underlying23 hi B n c h _ (Src.ofSlice w Tryd.underlying23 a 0 c2 [] (by simp) (fun j u hj => by simp at hj) (fun u hu => by cases hu))
theorem rowP_nil {w : World} {P : Nat → Prop} {A : Option Addr} {ps : List (Tm × Value)} (h : RowP w P A 0 ps) : ps = [] := List.length_eq_zero_iff.1 h.1
theorem step_append_R {o : Oper} {a : Act} {w : World} {K : Act → World → Prop} {Q : Exit → Act → World → Prop} (hgd : o.guard = none) (s x : Operand)
    (ho : o.op = .call { callee := .builtin .append, args := #[s, x], argTypes := #[23, 23] })
    {B : Nat} {P : Nat → Prop} {A : Option Addr} {n c : Nat} {ps : List (Tm × Value)} (hs : a.eval s = .slice A n c) (h : TRow w B P A n c ps) (hP : ∀ b, P b → b < w.heap.size)
    {A2 : Option Addr} {m c2 : Nat} {qs : List (Tm × Value)} (hx : a.eval x = .slice A2 m c2) (hq : RowP w (fun b => P b ∧ (Value.slice A n c).ownBlock ≠ some b) A2 m qs) (hm : n + m ≤ maxArgs) (hb : B ≤ w.heap.size)
    (hh : ∀ A' c' w', TRow w' B P A' (n + m) c' (ps ++ qs) → Below B w w' → w.grownBy w' (Value.slice A n c).ownBlock → K (a.put o.dst (.slice A' (n + m) c')) w') :
    Oper.wp Tryd.prog o a w K Q := by
  by_cases h0 : m = 0
  · subst h0
    have hr := run_append_T0 w o.type A n c h.cap.1 A2 c2
    unfold Oper.wp execOp
    simp only [ho, resolve, invoke, builtin, Sem.run_bind, Sem.run_pure, Result.andThen_ok, List.map_toArray, List.map_cons, List.map_nil, hs, hx, hr]
    have e := rowP_nil hq
    subst e
    exact hh A c w (by rw [List.append_nil]; exact h) (Below.refl _ _) (gb_refl _ _)
  · obtain ⟨g, o2, rfl, hg, hcl⟩ := hq.2.2 (by omega)
    exact step_append_T hgd s x ho qs hs h hP ⟨g, o2, none⟩ m c2 hx hq.1 hq.2.1 (fun j u hj => by rw [addr_add]; exact hcl j u hj) hm hb hh
theorem wpList_append_R {ops : Array Oper} {rest : List Oper} {o : Oper} {a : Act} {Q : Exit → Act → World → Prop} {w : World} (hgd : o.guard = none) (s x : Operand)
    (ho : o.op = .call { callee := .builtin .append, args := #[s, x], argTypes := #[23, 23] })
    {B : Nat} {P : Nat → Prop} {A : Option Addr} {n c : Nat} {ps : List (Tm × Value)} (hs : a.eval s = .slice A n c) (h : TRow w B P A n c ps) (hP : ∀ b, P b → b < w.heap.size)
    {A2 : Option Addr} {m c2 : Nat} {qs : List (Tm × Value)} (hx : a.eval x = .slice A2 m c2) (hq : RowP w (fun b => P b ∧ (Value.slice A n c).ownBlock ≠ some b) A2 m qs) (hm : n + m ≤ maxArgs) (hb : B ≤ w.heap.size)
    (hh : ∀ A' c' w', TRow w' B P A' (n + m) c' (ps ++ qs) → Below B w w' → w.grownBy w' (Value.slice A n c).ownBlock → wpList Tryd.prog ops Q rest (a.put o.dst (.slice A' (n + m) c')) w') :
    wpList Tryd.prog ops Q (o :: rest) a w :=
  wpList_plain hgd fun K hK => step_append_R hgd s x ho hs h hP hx hq hm hb (fun A' c' w' h1 h2 h3 => hK _ _ (hh A' c' w' h1 h2 h3))
/-! ### throwing a term by its letters -/
theorem throw_lit {w : World} {k b v : Int} {n m : List UInt8} {ts : List Tm} {nb mb : ByteArray} {A : Option Addr} {L c : Nat} (hn : (⟨n.toArray⟩ : ByteArray) = nb) (hm : (⟨m.toArray⟩ : ByteArray) = mb) (h : TAt w w.heap.size (.mk k n m b v ts) (.slice A L c)) :
    Calls Tryd.prog 31 #[.agg #[.int .i64 k, .string nb, .string mb, .int .u64 b, .int .i64 v, .slice A L c]] w fun e w' => Threw e w' (.mk k n m b v ts) ∧ Below w.heap.size w w' := by
  have h9 := throw_any h
  rw [valT_mk hn hm] at h9
  exact h9
theorem TAt.any {w w' : World} {P : Nat → Prop} {t : Tm} {sl : Value} (h : TAtP w P t sl) (hP : ∀ b, P b → b < w.heap.size) (hb : Below w.heap.size w w') : TAt w' w'.heap.size t sl :=
  TAtP.keep _ h (fun b hp => ⟨Nat.lt_of_lt_of_le (hP b hp) hb.size, hb.block b (hP b hp)⟩)
/-- an atom in no memory -/
theorem atom_at (w : World) (P : Nat → Prop) {s : List UInt8} (h : s.length ≤ maxLen) : TAtP w P (atomT s) (.slice none 0 0) := by
  rw [TAtP.iff]
  exact ⟨none, 0, rfl, Nat.le_refl _, by simp [maxLen], by show 0 ≤ _; omega, okF_atom h, fun hne => absurd rfl hne⟩
theorem var_at (w : World) (P : Nat → Prop) {n : Int} (h : -9223372036854775808 ≤ n ∧ n ≤ 9223372036854775807) : TAtP w P (varT n) (.slice none 0 0) := by
  rw [TAtP.iff]
  exact ⟨none, 0, rfl, Nat.le_refl _, by simp [maxLen], by show 0 ≤ _; omega, okF_var h, fun hne => absurd rfl hne⟩
/-! ### dcg.whole -/
set_option maxRecDepth 100000 in
set_option maxHeartbeats 4000000 in
theorem whole_big {w : World} {t : Tm} {sl : Value} (h : TAt w w.heap.size t sl) (hz : 4000 < nodes t) : Calls Tryd.prog 37 #[valT t sl] w fun e w' => Threw e w' nodesT ∧ Below w.heap.size w w' := by
  obtain ⟨k, n, m, b, v, ts, nb, mb, A, c, rfl, rfl, hnb, hmb, hl1, hl2, hl3, hv, hs1, hs2⟩ := h.letters
  obtain ⟨L, hL⟩ : ∃ L, ts.length = L := ⟨_, rfl⟩
  rw [hv]
  rw [hL] at h hv ⊢
  obtain ⟨W1, hW1⟩ : ∃ W1, w.alloc (.cells #[.int .i64 k, .string nb, .string mb, .int .u64 b, .int .i64 v, .slice A L c] 25) = W1 := ⟨_, rfl⟩
  obtain ⟨W2, hW2⟩ : ∃ W2, W1.alloc (.cells #[.int .i64 0, .string ⟨#[]⟩, .string ⟨#[]⟩, .int .u64 0, .int .i64 0, .slice none 0 0] 25) = W2 := ⟨_, rfl⟩
  have hb1 : Below w.heap.size w W1 := by rw [← hW1]; exact (Below.refl _ _).alloc (Nat.le_refl _) _
  have s1 : W1.heap.size = w.heap.size + 1 := by rw [← hW1]; simp
  have hb2 : Below W1.heap.size W1 W2 := by rw [← hW2]; exact (Below.refl _ _).alloc (Nat.le_refl _) _
  have hX1 : TBox W1 w.heap.size (.mk k n m b v ts) (.slice A L c) := by rw [← hW1]; exact TBox.new w hnb hmb
  obtain ⟨x0, x1, x2, x3, x4, x5⟩ := (hX1.below hb2).cells hnb hmb
  have hb12 := hb1.trans (hb2.mono (by omega))
  have HC := Lib.hid (Nodes_any (h.to hb12 hb12.size))
  rw [hv] at HC
  obtain ⟨z, hzz⟩ : ∃ z, nodes (.mk k n m b v ts) = z := ⟨_, rfl⟩
  rw [hzz] at HC hz
  have hzI : (4000 : Int) < (z : Int) := by omega
  have HB := Lib.hid hb12
  subst hW1
  subst hW2
  clear h hv hb1 hb2 hb12 hX1 s1 hzz hnb hmb hz
  go_enter Tryd.func37, Tryd.ntmps37
  go_wp2_with (first
    | (go_at_call 61; (with_reducible refine HC.out.mono ?_); rintro e w3 ⟨rfl, hb3⟩; have HB3 := Lib.hid (HB.out.trans (hb3.mono HB.out.size)); clear hb3)
    | (go_at_call 33; (with_reducible refine (atom_any _ _).mono ?_); rintro e w4 ⟨rfl, hb4⟩; have HB4 := Lib.hid (HB3.out.trans (hb4.mono HB3.out.size)); clear hb4)
    | (go_at_call 32; (with_reducible refine (of_any _ _ _ _ _).mono ?_); rintro e w5 ⟨rfl, hb5⟩; have hbu := built (w := w4) (P := fun _ => False) (s := sRes) (n := 1) (cs := #[.int .i64 2, .string ⟨#[110, 111, 100, 101, 115]⟩, .string ⟨#[]⟩, .int .u64 0, .int .i64 0, .slice none 0 0]) (ps := [(atomT sNodes, Value.slice none 0 0)]) rfl rfl (mem1 (atom_at _ _ (by decide))) (fun b hb => hb.elim) (by unfold maxArgs; omega) (by decide); have HT5 := Lib.hid (TAt.any hbu (fun b hb => by rcases hb with hb | rfl <;> simp at *) hb5); have HB5 := Lib.hid ((HB4.out.alloc HB4.out.size (.cells #[.int .i64 2, .string ⟨#[110, 111, 100, 101, 115]⟩, .string ⟨#[]⟩, .int .u64 0, .int .i64 0, .slice none 0 0] 25)).trans (hb5.mono (HB4.out.alloc HB4.out.size (.cells #[.int .i64 2, .string ⟨#[110, 111, 100, 101, 115]⟩, .string ⟨#[]⟩, .int .u64 0, .int .i64 0, .slice none 0 0] 25)).size)); clear hb5 hbu)
    | (go_at_call 31; (with_reducible refine (throw_lit rfl rfl HT5.out).mono ?_); rintro e w6 ⟨⟨bb, rfl, hball⟩, hb6⟩; have HB6 := Lib.hid (And.intro hball (HB5.out.trans (hb6.mono HB5.out.size))); clear hball hb6))
  exact ⟨rfl, ⟨bb, rfl, HB6.out.1⟩, HB6.out.2⟩
set_option maxRecDepth 100000 in
set_option maxHeartbeats 4000000 in
theorem whole_fit {w : World} {t : Tm} {sl : Value} (h : TAt w w.heap.size t sl) (hbare : Bare t) (hz : ¬ 4000 < nodes t) : Calls Tryd.prog 37 #[valT t sl] w fun e w' => ∃ sl', e = .returned (valT t sl') ∧ TOwn w' t sl' w.heap.size w'.heap.size ∧ Below w.heap.size w w' := by
  obtain ⟨k, n, m, b, v, ts, nb, mb, A, c, rfl, rfl, hnb, hmb, hl1, hl2, hl3, hv, hs1, hs2⟩ := h.letters
  obtain ⟨L, hL⟩ : ∃ L, ts.length = L := ⟨_, rfl⟩
  rw [hv]
  rw [hL] at h hv ⊢
  obtain ⟨W1, hW1⟩ : ∃ W1, w.alloc (.cells #[.int .i64 k, .string nb, .string mb, .int .u64 b, .int .i64 v, .slice A L c] 25) = W1 := ⟨_, rfl⟩
  obtain ⟨W2, hW2⟩ : ∃ W2, W1.alloc (.cells #[.int .i64 0, .string ⟨#[]⟩, .string ⟨#[]⟩, .int .u64 0, .int .i64 0, .slice none 0 0] 25) = W2 := ⟨_, rfl⟩
  have hb1 : Below w.heap.size w W1 := by rw [← hW1]; exact (Below.refl _ _).alloc (Nat.le_refl _) _
  have s1 : W1.heap.size = w.heap.size + 1 := by rw [← hW1]; simp
  have hb2 : Below W1.heap.size W1 W2 := by rw [← hW2]; exact (Below.refl _ _).alloc (Nat.le_refl _) _
  have hX1 : TBox W1 w.heap.size (.mk k n m b v ts) (.slice A L c) := by rw [← hW1]; exact TBox.new w hnb hmb
  have hX2 : TBox W2 W1.heap.size zeroT (.slice none 0 0) := by rw [← hW2]; exact heap_alloc_new W1 _
  rw [s1] at hX2
  have hX1' := hX1.below hb2
  obtain ⟨x0, x1, x2, x3, x4, x5⟩ := hX1'.cells hnb hmb
  have hb12 := hb1.trans (hb2.mono (by omega))
  have HC := Lib.hid (Nodes_any (h.to hb12 hb12.size))
  have HO := Lib.hid (fun w' (hb : Below W2.heap.size W2 w') => own_letters hnb hmb hL (dcgown_any _ w' _ ((h.to hb12 hb12.size).to hb hb.size) hbare))
  rw [hv] at HC
  rw [valT_mk hnb hmb] at HO
  obtain ⟨z, hzz⟩ : ∃ z, nodes (.mk k n m b v ts) = z := ⟨_, rfl⟩
  rw [hzz] at HC hz
  have hzI : ¬ (4000 : Int) < (z : Int) := by omega
  have HB := Lib.hid (And.intro hb12 (And.intro hX1' hX2))
  have HM := Lib.hid (And.intro hnb hmb)
  subst hW1
  subst hW2
  clear h hv hb1 hb2 hb12 hX1 hX1' hX2 s1 hzz hnb hmb hz hbare
  go_enter Tryd.func37, Tryd.ntmps37
  go_wp2_with (first
    | (go_at_call 61; (with_reducible refine HC.out.mono ?_); rintro e w3 ⟨rfl, hb3⟩; have HB3 := Lib.hid hb3; obtain ⟨y0, y1, y2, y3, y4, y5⟩ := (HB.out.2.1.below hb3).cells HM.out.1 HM.out.2; clear hb3)
    | (go_at_call 62; (with_reducible refine (HO.out _ HB3.out).mono ?_); rintro e w4 ⟨A4, c4, rfl, ho4, hb4⟩; have HX4 := Lib.hid (HB.out.2.2.below (HB3.out.trans (hb4.mono HB3.out.size))); obtain ⟨u0, u1, u2, u3, u4, u5⟩ := HX4.out.cells rfl rfl; obtain ⟨z0, z1, z2, z3, z4, z5⟩ := HX4.out.frozens; have HO4 := Lib.hid (And.intro ho4 hb4); clear ho4 hb4))
  obtain ⟨hbx, hgr⟩ := HX4.out.set6 (k := k) (b := b) (v := v) (n := n) (m := m) ts (.slice A4 L c4) HM.out.1 HM.out.2
  generalize (((((w4.setCell ⟨w.heap.size + 1, 0, none⟩ (.int .i64 k)).setCell ⟨w.heap.size + 1, 1, none⟩ (.string nb)).setCell ⟨w.heap.size + 1, 2, none⟩ (.string mb)).setCell ⟨w.heap.size + 1, 3, none⟩ (.int .u64 b)).setCell ⟨w.heap.size + 1, 4, none⟩ (.int .i64 v)).setCell ⟨w.heap.size + 1, 5, none⟩ (.slice A4 L c4) = w6 at *
  obtain ⟨r0, r1, r2, r3, r4, r5⟩ := hbx.cells HM.out.1 HM.out.2
  have h3 := HB3.out.size
  have h2 := HB.out.2.2.lt
  have h4 := HO4.out.2.size
  refine bodyPost_ret (v := .agg #[.int .i64 k, .string nb, .string mb, .int .u64 b, .int .i64 v, .slice A4 L c4]) (by simp [results, Tryd.results37, go_sem, r0, r1, r2, r3, r4, r5]) rfl ⟨.slice A4 L c4, by rw [valT_mk HM.out.1 HM.out.2], ?_, ?_⟩
  · exact ((TOwn.keep _ (w' := w6) HO4.out.1 (fun b h1 h2 => hgr.block b h2 (fun e => by injection e with e; omega))).widen hgr.size).lower (by omega)
  · exact ((HB.out.1.trans (HB3.out.mono HB.out.1.size)).trans (HO4.out.2.mono (by omega))).grown hgr (by omega) (fun j e => by injection e with e; omega)
end Go.Proofs.YtgfeainpeplphaaDoor
