import Derived.Test.YtgfeainpeplphaaDoorJa
import Derived.WalkLawsBesides
namespace Ht
theorem elems_dot {m : List UInt8} {b v : Int} {x y : Tm} : elems (.mk 5 sDot m b v [x, y]) = (x :: (elems y).1, (elems y).2) := by
  rw [elems, if_pos ⟨rfl, rfl⟩]
theorem elems_not {k b v : Int} {n m : List UInt8} {ts : List Tm} (h : ¬ (k = 5 ∧ n = sDot ∧ ts.length = 2)) : elems (.mk k n m b v ts) = ([], .mk k n m b v ts) := by
  rw [elems.eq_def]
  split
  · next k' n' m' b' v' x y e =>
    cases e
    rw [if_neg (fun hh => h ⟨hh.1, hh.2, rfl⟩)]
  · rfl
end Ht
namespace Go.Proofs.YtgfeainpeplphaaDoor
open Go.RowKit Hb Ht
set_option linter.unusedVariables false
set_option linter.unusedSimpArgs false
attribute [local go_sem] Oper.semAt_some
/-! ### what is thrown -/
/-- block b holds the ball of term t -/
def BallAt (w : World) (b : Nat) (t : Tm) : Prop := ∃ sl, w.heap[b]? = some (.cells (cells6 t sl).toArray 85 (0, 0)) ∧ TAt w w.heap.size t sl
/-- a call ends by throwing t -/
def Threw (e : Ending) (w' : World) (t : Tm) : Prop := ∃ b, e = .panicked [{ v := .iface 82 (.pointer (some ⟨b, 0, none⟩)), recovered := false }] ∧ BallAt w' b t
set_option maxRecDepth 100000 in
set_option maxHeartbeats 1000000 in
theorem throw_any {w : World} {t : Tm} {sl : Value} (h : TAt w w.heap.size t sl) : Calls Tryd.prog 31 #[valT t sl] w fun e w' => Threw e w' t ∧ Below w.heap.size w w' := by
  obtain ⟨k, n, m, b, v, ts, nb, mb, A, c, rfl, rfl, hnb, hmb, hl1, hl2, hl3, hv, hs1, hs2⟩ := h.letters
  rw [hv]
  obtain ⟨L, hL⟩ : ∃ L, ts.length = L := ⟨_, rfl⟩
  rw [hL] at h ⊢
  have hX := TBox.new (ts := ts) w (k := k) (b := b) (v := v) (sl := .slice A L c) hnb hmb
  obtain ⟨x0, x1, x2, x3, x4, x5⟩ := hX.cells hnb hmb
  have HB := Lib.hid (show Below w.heap.size w ((w.alloc (.cells #[.int .i64 k, .string nb, .string mb, .int .u64 b, .int .i64 v, .slice A L c] 25)).alloc (.cells #[.int .i64 k, .string nb, .string mb, .int .u64 b, .int .i64 v, .slice A L c] 85)) from ((Below.refl _ _).alloc (Nat.le_refl _) _).alloc (by simp) _)
  have HT := Lib.hid (h.to HB.out HB.out.size)
  have HM := Lib.hid (And.intro hnb hmb)
  clear h hv hX hnb hmb
  go_enter Tryd.func31, Tryd.ntmps31
  go_wp2
  refine ⟨rfl, ⟨_, rfl, .slice A L c, ?_, HT.out⟩, HB.out⟩
  have h9 := heap_alloc_new (w.alloc (.cells #[.int .i64 k, .string nb, .string mb, .int .u64 b, .int .i64 v, .slice A L c] 25)) (.cells #[.int .i64 k, .string nb, .string mb, .int .u64 b, .int .i64 v, .slice A L c] 85)
  rw [World.size_alloc] at h9
  obtain ⟨rfl, rfl⟩ := HM.out
  exact h9
/-! ### a list's elements -/
theorem termown_fresh (t : Tm) (w : World) (sl : Value) (h : TAt w w.heap.size t sl) : Calls Tryd.prog 72 #[valT t sl] w fun e w' => ∃ sl', e = .returned (valT t sl') ∧ FreshT w w' t sl' ∧ Below w.heap.size w w' :=
  (termown_any t w sl h).mono fun e w' ⟨sl', he, ho, hb⟩ => ⟨sl', he, ho.atP, hb⟩
def lenOf : Value → Nat
  | .slice _ n _ => n
  | _ => 0
/-- a row of the call's own whose parts are its own too, from block B on -/
abbrev RowB (w : World) (B : Nat) (A : Option Addr) (n c : Nat) (ps : List (Tm × Value)) : Prop := TRow w B (fun b => B ≤ b ∧ b < w.heap.size) A n c ps
theorem RowB.below {w w' : World} {B n c : Nat} {A : Option Addr} {ps : List (Tm × Value)} (h : RowB w B A n c ps) (hb : Below w.heap.size w w') : RowB w' B A n c ps :=
  (h.keep hb (fun b hb => hb.2)).wide (fun b hb2 => ⟨hb2.1, Nat.lt_of_lt_of_le hb2.2 hb.size⟩)
theorem RowB.grown {w w' : World} {B n c G : Nat} {A : Option Addr} {ps : List (Tm × Value)} (h : RowB w B A n c ps) (hg : w.grownBy w' (some G)) (hG : G < B) : RowB w' B A n c ps :=
  (h.keepP (fun b h1 h2 => hg.block b h2 (fun e => by injection e with e; omega)) (fun b hb => hg.block b hb.2 (fun e => by injection e with e; omega))).wide (fun b hb2 => ⟨hb2.1, Nat.lt_of_lt_of_le hb2.2 hg.size⟩)
/-- a fresh term is appended: the slice that holds it has been built -/
theorem wpList_app1 {ops : Array Oper} {rest : List Oper} {o : Oper} {a : Act} {Q : Exit → Act → World → Prop} {wr w3 : World} {B n c q c5 : Nat} {A A5 : Option Addr} {ps : List (Tm × Value)} {k b v : Int} {nl ml : List UInt8} {ts : List Tm} {nb mb : ByteArray}
    (hgd : o.guard = none) (s x : Operand) (ho : o.op = .call { callee := .builtin .append, args := #[s, x], argTypes := #[23, 23] })
    (hs : a.eval s = .slice A n c) (hx : a.eval x = .slice (some ⟨w3.heap.size, 0, none⟩) 1 1)
    (hrow : RowB wr B A n c ps) (hB : B ≤ wr.heap.size) (hw : Below wr.heap.size wr w3) (hf : FreshT wr w3 (.mk k nl ml b v ts) (.slice A5 q c5)) (hnb : (⟨nl.toArray⟩ : ByteArray) = nb) (hmb : (⟨ml.toArray⟩ : ByteArray) = mb) (hm : n + 1 ≤ maxArgs)
    (hh : ∀ A' c' w', RowB w' B A' (n + 1) c' (ps ++ [((.mk k nl ml b v ts : Tm), .slice A5 q c5)]) → Below B wr w' → wr.heap.size ≤ w'.heap.size → wpList Tryd.prog ops Q rest (a.put o.dst (.slice A' (n + 1) c')) w') :
    wpList Tryd.prog ops Q (o :: rest) a (w3.alloc (.cells #[.int .i64 k, .string nb, .string mb, .int .u64 b, .int .i64 v, .slice A5 q c5] 25)) := by
  have hb6 : Below w3.heap.size w3 (w3.alloc (.cells #[.int .i64 k, .string nb, .string mb, .int .u64 b, .int .i64 v, .slice A5 q c5] 25)) := (Below.refl _ _).alloc (Nat.le_refl _) _
  have hbw := hw.trans (hb6.mono hw.size)
  have hrow6 := RowB.below hrow hbw
  have hnews := heap_alloc_new w3 (.cells #[.int .i64 k, .string nb, .string mb, .int .u64 b, .int .i64 v, .slice A5 q c5] 25)
  have hnw : ∀ j u, (fl6 [((.mk k nl ml b v ts : Tm), Value.slice A5 q c5)])[j]? = some u → (w3.alloc (.cells #[.int .i64 k, .string nb, .string mb, .int .u64 b, .int .i64 v, .slice A5 q c5] 25)).cell? ((⟨w3.heap.size, 0, none⟩ : Addr).add j) = some u := fun j u hj => by
    rw [add_zero', cell_of_row _ w3.heap.size j _ _ (0, 0) hnews, ← hj, ← hnb, ← hmb]
    simp [fl6, cells6, Tm.k, Tm.n, Tm.m, Tm.b, Tm.v]
  have hkid : TAtP (w3.alloc (.cells #[.int .i64 k, .string nb, .string mb, .int .u64 b, .int .i64 v, .slice A5 q c5] 25)) (fun b' => (B ≤ b' ∧ b' < (w3.alloc (.cells #[.int .i64 k, .string nb, .string mb, .int .u64 b, .int .i64 v, .slice A5 q c5] 25)).heap.size) ∧ (Value.slice A n c).ownBlock ≠ some b') (.mk k nl ml b v ts) (.slice A5 q c5) := TAtP.keep _ hf (fun b' hb => by
    have hwb : wr.heap.size ≤ b' := hb.1
    refine ⟨⟨⟨by omega, Nat.lt_of_lt_of_le hb.2 hb6.size⟩, ?_⟩, hb6.block b' hb.2⟩
    rcases hrow.block with ⟨h1, _⟩ | ⟨g1, h1, h2, h3, h4⟩
    · subst h1; simp [Value.ownBlock]
    · rw [h4]; intro e; injection e with e; omega)
  generalize w3.alloc (.cells #[.int .i64 k, .string nb, .string mb, .int .u64 b, .int .i64 v, .slice A5 q c5] 25) = w6 at *
  refine wpList_append_T hgd s x ho [((.mk k nl ml b v ts : Tm), Value.slice A5 q c5)] hs hrow6 (fun b hb => hb.2) ⟨w3.heap.size, 0, none⟩ 1 1 hx rfl (fun y hy => by rw [List.mem_singleton.1 hy]; exact hkid) hnw hm (by have := hbw.size; omega) ?_
  intro A' c' w' hr hb hg
  exact hh A' c' w' (hr.wide (fun b hb2 => ⟨hb2.1, Nat.lt_of_lt_of_le hb2.2 hg.size⟩)) ((hbw.mono hB).trans hb) (Nat.le_trans hbw.size hg.size)
structure El0 (w : World) (G : Nat) (A : Option Addr) (n c : Nat) (ps : List (Tm × Value)) (cur : Tm) (sl : Value) (wr : World) : Prop where
  bel : Below w.heap.size w wr
  le : G + 1 + 1 ≤ wr.heap.size
  t1 : TBox wr G cur sl
  t2 : TBox wr (G + 1) zeroT (.slice none 0 0)
  row : RowB wr (G + 1 + 1) A n c ps
theorem El0.app {w wr w6 : World} {G n c n' c' : Nat} {A A' : Option Addr} {ps ps' : List (Tm × Value)} {cur : Tm} {sl : Value} (h : El0 w G A n c ps cur sl wr) (hG : w.heap.size = G) (hr : RowB w6 (G + 1 + 1) A' n' c' ps') (hb : Below (G + 1 + 1) wr w6) : El0 w G A' n' c' ps' cur sl w6 :=
  ⟨h.bel.trans (hb.mono (by omega)), Nat.le_trans h.le hb.size, (hb.block G (by omega)).trans h.t1, (hb.block (G + 1) (by omega)).trans h.t2, hr⟩
theorem El0.below {w wr w6 : World} {G n c : Nat} {A : Option Addr} {ps : List (Tm × Value)} {cur : Tm} {sl : Value} (h : El0 w G A n c ps cur sl wr) (hb : Below wr.heap.size wr w6) : El0 w G A n c ps cur sl w6 :=
  ⟨h.bel.trans (hb.mono h.bel.size), Nat.le_trans h.le hb.size, h.t1.below hb, h.t2.below hb, RowB.below h.row hb⟩
theorem El0.set {w wr w6 : World} {G n c : Nat} {A : Option Addr} {ps : List (Tm × Value)} {cur cur' : Tm} {sl sl' : Value} (h : El0 w G A n c ps cur sl wr) (hG : w.heap.size = G) (hbx : TBox w6 G cur' sl') (hg : wr.grownBy w6 (some G)) : El0 w G A n c ps cur' sl' w6 :=
  ⟨h.bel.grown hg h.bel.size (fun j e => by injection e with e; omega), Nat.le_trans h.le hg.size, hbx, (hg.block (G + 1) h.t2.lt (fun e => by injection e with e; omega)).trans h.t2, RowB.grown h.row hg (by omega)⟩
theorem el_len {T cur : Tm} {ps : List (Tm × Value)} {n : Nat} (h : elems T = (ps.map (·.1) ++ (elems cur).1, (elems cur).2)) (hn : ps.length = n) : n + (elems cur).1.length = (elems T).1.length := by
  rw [h, List.length_append, List.length_map, hn]
set_option maxRecDepth 100000 in
set_option maxHeartbeats 8000000 in
theorem Elements_any {w0 w : World} {t : Tm} {sl : Value} (h : TAt w w.heap.size t sl) (hU : UOk w0 w) (hc : checkP t = 0) :
    Calls Tryd.prog 59 #[valT t sl] w fun e w' => ∃ A n c ps sl', e = .returned (.tuple #[.slice A n c, valT (elems t).2 sl', .int .i64 0]) ∧ RowB w' w.heap.size A n c ps ∧ ps.map (·.1) = (elems t).1 ∧ TAtP w' (fun b => w.heap.size ≤ b ∧ b < w'.heap.size) (elems t).2 sl' ∧ n ≤ 4000 ∧ Below w.heap.size w w' := by
  obtain ⟨T, hT⟩ : ∃ T, t = T := ⟨_, rfl⟩
  have HLn := Lib.hid (show (elems T).1.length ≤ 4000 by rw [← hT]; have := elems_len t; have := (check_iff.1 hc).1; omega)
  rw [hT]
  obtain ⟨k, n, m, b, v, ts, nb, mb, A, c, hT2, rfl, hnb, hmb, hl1, hl2, hl3, hv, hs1, hs2⟩ := h.letters
  rw [hT] at hT2 hv h
  rw [hv]
  obtain ⟨L, hL⟩ : ∃ L, ts.length = L := ⟨_, rfl⟩
  rw [hL] at h ⊢
  obtain ⟨W1, hW1⟩ : ∃ W1, w.alloc (.cells #[.int .i64 k, .string nb, .string mb, .int .u64 b, .int .i64 v, .slice A L c] 25) = W1 := ⟨_, rfl⟩
  obtain ⟨W2, hW2⟩ : ∃ W2, W1.alloc (.cells #[.int .i64 0, .string ⟨#[]⟩, .string ⟨#[]⟩, .int .u64 0, .int .i64 0, .slice none 0 0] 25) = W2 := ⟨_, rfl⟩
  have hb1 : Below w.heap.size w W1 := by rw [← hW1]; exact (Below.refl _ _).alloc (Nat.le_refl _) _
  have s1 : W1.heap.size = w.heap.size + 1 := by rw [← hW1]; simp
  have hb2 : Below W1.heap.size W1 W2 := by rw [← hW2]; exact (Below.refl _ _).alloc (Nat.le_refl _) _
  have s2 : W2.heap.size = W1.heap.size + 1 := by rw [← hW2]; simp
  have hX1 : TBox W1 w.heap.size (.mk k n m b v ts) (.slice A L c) := by rw [← hW1]; exact TBox.new w hnb hmb
  have hX2 : TBox W2 W1.heap.size zeroT (.slice none 0 0) := by rw [← hW2]; exact heap_alloc_new W1 _
  have hX1' := hX1.below hb2
  rw [s1] at hX2
  obtain ⟨x0, x1, x2, x3, x4, x5⟩ := hX1'.cells hnb hmb
  have hb12 := hb1.trans (hb2.mono (by omega))
  have HI0 := Lib.hid (show El0 w w.heap.size none 0 0 [] (.mk k n m b v ts) (.slice A L c) W2 from ⟨hb12, by omega, hX1', hX2, TRow.nil _ _ _⟩)
  rw [hT2] at h
  have HS0 := Lib.hid (show TAt w w.heap.size (.mk k n m b v ts) (.slice A L c) ∧ elems T = (([] : List (Tm × Value)).map (·.1) ++ (elems (.mk k n m b v ts)).1, (elems (.mk k n m b v ts)).2) from ⟨h, by rw [hT2]; rfl⟩)
  have HC := Lib.hid (Check_any (h.to HI0.out.bel HI0.out.bel.size) (hU.below HI0.out.bel))
  rw [show checkP (.mk k n m b v ts) = 0 from by rw [← hT2, ← hT]; exact hc, valT_mk hnb hmb] at HC
  subst hW1
  subst hW2
  clear hv hX1 hX2 hX1' hb1 hb2 hb12 s1 s2 hT hT2 hs1 hs2 h
  go_enter Tryd.func59, Tryd.ntmps59
  go_upto_region 5 with (go_at_call 56; (with_reducible refine HC.out.mono ?_); rintro e W3 ⟨rfl, hb3⟩; have HB3 := Lib.hid hb3; clear hb3)
  have HI1 := Lib.hid (HI0.out.below HB3.out)
  clear HI0 HB3 HC x0 x1 x2 x3 x4 x5
  obtain ⟨G, hG⟩ : ∃ G, w.heap.size = G := ⟨_, rfl⟩
  have HG := Lib.hid hG
  rw [hG] at HI1 ⊢
  clear hG
  go_loopw [6] (fun vo wr => ∃ A n c ps cur sl, vo = .slice A n c ∧ Hid (El0 w G A n c ps cur sl wr ∧ TAt w w.heap.size cur sl ∧ elems T = (ps.map (·.1) ++ (elems cur).1, (elems cur).2))) (fun vo _ => 4000 - lenOf vo)
  case atStart => exact ⟨none, 0, 0, [], _, _, rfl, Lib.hid ⟨HI1.out, HS0.out⟩⟩
  case round =>
    obtain ⟨A2, n2, c2, ps, cur, sl2, rfl, HI⟩ := hrel
    obtain ⟨k', n', m', b', v', ts', nb', mb', A', c', rfl, rfl, hnb', hmb', hm1, hm2, hm3, hv', hs1', hs2'⟩ := HI.out.2.1.letters
    obtain ⟨q, hq⟩ : ∃ q, ts'.length = q := ⟨_, rfl⟩
    rw [hq] at HI hm1 hm3
    have hqI : (q : Int) ≤ 1759218604400 := by unfold maxArgs at hm3; omega
    obtain ⟨y0, y1, y2, y3, y4, y5⟩ := HI.out.1.t1.cells hnb' hmb'
    have HN := Lib.hid (And.intro hnb' hmb')
    have hnl : nb'.toList = n' := by rw [ByteArray.toList_eq, ← hnb']
    have HQ := Lib.hid hq
    by_cases hd : k' = 5 ∧ n' = sDot ∧ ts'.length = 2
    · obtain ⟨rfl, rfl, h2⟩ := hd
      have hq2 : q = 2 := by omega
      subst hq2
      obtain ⟨x, y, rfl⟩ : ∃ x y, ts' = [x, y] := by
        match ts', h2 with
        | [x, y], _ => exact ⟨x, y, rfl⟩
      have s1 : (nb'.toList == [46]) = true := by rw [hnl]; rfl
      have hcu := HI.out.2.1
      obtain ⟨g, o, rfl, hgw, ex0⟩ := hcu.arg (i := 0) (a := x) rfl
      obtain ⟨g1, o1, e9, hg1, ey0⟩ := hcu.arg (i := 1) (a := y) rfl
      cases e9
      have hbl := HI.out.1.bel.block g hgw
      obtain ⟨A3, c3, k3, n3, m3, b3, v3, ts3, nb3, mb3, rfl, hnb3, hmb3, hta, e0, e1, e2, e3, e4, e5⟩ := EltAt.cells ex0
      obtain ⟨A4, c4, k4, n4, m4, b4, v4, ts4, nb4, mb4, rfl, hnb4, hmb4, htb, f0, f1, f2, f3, f4, f5⟩ := EltAt.cells ey0
      rw [Nat.zero_mul, Nat.add_zero] at e0 e1 e2 e3 e4 e5
      rw [Nat.one_mul] at f0 f1 f2 f3 f4 f5
      obtain ⟨q3, hq3⟩ : ∃ q, ts3.length = q := ⟨_, rfl⟩
      obtain ⟨q4, hq4⟩ : ∃ q, ts4.length = q := ⟨_, rfl⟩
      have HCl := Lib.hid (fresh_letters hnb3 hmb3 hq3 (termown_fresh _ wr _ (hta.to HI.out.1.bel HI.out.1.bel.size)))
      rw [valT_mk hnb3 hmb3, hq3] at HCl
      have HN3 := Lib.hid (And.intro hnb3 hmb3)
      have HN4 := Lib.hid (And.intro hnb4 hmb4)
      have hel := elems_dot (m := m') (b := b') (v := v') (x := .mk k3 n3 m3 b3 v3 ts3) (y := .mk k4 n4 m4 b4 v4 ts4)
      have HLt := Lib.hid (show n2 < 4000 by
        have h8 := el_len HI.out.2.2 HI.out.1.row.len
        rw [hel] at h8
        simp only [List.length_cons] at h8
        have := HLn.out
        omega)
      rw [hq3] at e5
      rw [hq4] at f5 htb
      have HY2 := Lib.hid (And.intro htb (show elems T = ((ps ++ [((.mk k3 n3 m3 b3 v3 ts3 : Tm), Value.slice none 0 0)]).map (·.1) ++ (elems (.mk k4 n4 m4 b4 v4 ts4)).1, (elems (.mk k4 n4 m4 b4 v4 ts4)).2) from by
        have h9 := HI.out.2.2
        rw [hel] at h9
        rw [h9]
        simp))
      have HGW := Lib.hid (And.intro hgw hbl)
      have HEf := Lib.hid (And.intro f0 (And.intro f1 (And.intro f2 (And.intro f3 (And.intro f4 f5)))))
      have i0 := (World.cell?_of_block (a := ⟨g, o, none⟩) hbl).trans e0
      have i1 := (World.cell?_of_block (a := ⟨g, o + 1, none⟩) hbl).trans e1
      have i2 := (World.cell?_of_block (a := ⟨g, o + 2, none⟩) hbl).trans e2
      have i3 := (World.cell?_of_block (a := ⟨g, o + 3, none⟩) hbl).trans e3
      have i4 := (World.cell?_of_block (a := ⟨g, o + 4, none⟩) hbl).trans e4
      have i5 := (World.cell?_of_block (a := ⟨g, o + 5, none⟩) hbl).trans e5
      clear ex0 ey0 hta htb hnb' hmb' hnb3 hmb3 hnb4 hmb4 hnl hq hq3 hq4 h2 hcu hgw hg1 hel hv' hs1' hs2' e0 e1 e2 e3 e4 e5 f0 f1 f2 f3 f4 f5 hbl
      go_wp2_with (first
        | (go_at_call 72; (with_reducible refine HCl.out.mono ?_); rintro e w3 ⟨A5, c5, rfl, hf5, hb5⟩; have HF5 := Lib.hid (And.intro hf5 hb5); clear hf5 hb5)
        | (at_builtin; refine wpList_app1 rfl _ _ rfl rfl rfl HI.out.1.row (by have := HI.out.1.le; omega) HF5.out.2 HF5.out.1 HN3.out.1 HN3.out.2 (by have := HLt.out; unfold maxArgs; omega) ?_; intro A6 c6 w6 hr6 hb6 hs6; have HE6 := Lib.hid (HI.out.1.app HG.out hr6 hb6); have hgb : w6.heap[g]? = w.heap[g]? := (hb6.block g (by have := HGW.out.1; have := HG.out; omega)).trans HGW.out.2; obtain ⟨f0, f1, f2, f3, f4, f5⟩ := HEf.out; have p0 := (World.cell?_of_block (a := ⟨g, o + 6, none⟩) hgb).trans f0; have p1 := (World.cell?_of_block (a := ⟨g, o + 6 + 1, none⟩) hgb).trans f1; have p2 := (World.cell?_of_block (a := ⟨g, o + 6 + 2, none⟩) hgb).trans f2; have p3 := (World.cell?_of_block (a := ⟨g, o + 6 + 3, none⟩) hgb).trans f3; have p4 := (World.cell?_of_block (a := ⟨g, o + 6 + 4, none⟩) hgb).trans f4; have p5 := (World.cell?_of_block (a := ⟨g, o + 6 + 5, none⟩) hgb).trans f5; obtain ⟨r0, r1, r2, r3, r4, r5⟩ := HE6.out.t1.cells HN.out.1 HN.out.2; obtain ⟨z0, z1, z2, z3, z4, z5⟩ := HE6.out.t1.frozens; clear f0 f1 f2 f3 f4 f5 hgb hr6 hb6 hs6))
      go_roundw
      case rel =>
        obtain ⟨hbx, hgr⟩ := HE6.out.t1.set6 (k := k4) (b := b4) (v := v4) (n := n4) (m := m4) ts4 (.slice A4 q4 c4) HN4.out.1 HN4.out.2
        refine ⟨A6, n2 + 1, c6, _, _, _, rfl, Lib.hid ⟨HE6.out.set HG.out hbx hgr, HY2.out.1, ?_⟩⟩
        rw [HY2.out.2]
        simp
      case measure =>
        have := HLt.out
        show 4000 - (n2 + 1) < 4000 - n2
        omega
    · have hel := elems_not (m := m') (b := b') (v := v') hd
      have h9 := HI.out.2.2
      rw [hel] at h9
      have HCl := Lib.hid (fresh_letters hnb' hmb' hq (termown_fresh _ wr _ (HI.out.2.1.to HI.out.1.bel HI.out.1.bel.size)))
      rw [valT_mk hnb' hmb'] at HCl
      have HE := Lib.hid (show elems T = (ps.map (·.1), .mk k' n' m' b' v' ts') from by rw [h9]; simp)
      have HNn := Lib.hid (show n2 ≤ 4000 by have h8 := el_len HI.out.2.2 HI.out.1.row.len; have := HLn.out; omega)
      have h3 : (k' == 5) = false ∨ (k' = 5 ∧ (nb'.toList == [46]) = false) ∨ (k' = 5 ∧ (nb'.toList == [46]) = true ∧ ((q : Int) == 2) = false) := by
        by_cases e1 : k' = 5
        · by_cases e2 : n' = sDot
          · refine .inr (.inr ⟨e1, by rw [hnl, e2]; rfl, beq_eq_false_iff_ne.2 (fun e => hd ⟨e1, e2, by omega⟩)⟩)
          · exact .inr (.inl ⟨e1, by rw [hnl]; exact beq_eq_false_iff_ne.2 e2⟩)
        · exact .inl (beq_eq_false_iff_ne.2 e1)
      clear h9 hel hd hnl hnb' hmb' hq hv' hs1' hs2'
      have h3 : (k' == 5) = false ∨ ((k' == 5) = true ∧ (nb'.toList == [46]) = false) ∨ ((k' == 5) = true ∧ (nb'.toList == [46]) = true ∧ ((q : Int) == 2) = false) := by
        rcases h3 with s0 | ⟨e5, s1⟩ | ⟨e5, s1, s2⟩
        · exact .inl s0
        · exact .inr (.inl ⟨by simp [e5], s1⟩)
        · exact .inr (.inr ⟨by simp [e5], s1, s2⟩)
      rcases h3 with s0 | ⟨s0, s1⟩ | ⟨s0, s1, s2⟩
      all_goals
        go_wp2_with (go_at_call 72; (with_reducible refine HCl.out.mono ?_); rintro e w3 ⟨A5, c5, rfl, hf5, hb5⟩; have HI5 := Lib.hid (HI.out.1.below hb5); have HF5 := Lib.hid (And.intro hf5 hb5); obtain ⟨u0, u1, u2, u3, u4, u5⟩ := HI5.out.t2.cells rfl rfl; obtain ⟨z0, z1, z2, z3, z4, z5⟩ := HI5.out.t2.frozens; clear hf5 hb5)
        obtain ⟨hbx, hgr⟩ := HI5.out.t2.set6 (k := k') (b := b') (v := v') (n := n') (m := m') ts' (.slice A5 q c5) HN.out.1 HN.out.2
        generalize (((((w3.setCell ⟨G + 1, 0, none⟩ (.int .i64 k')).setCell ⟨G + 1, 1, none⟩ (.string nb')).setCell ⟨G + 1, 2, none⟩ (.string mb')).setCell ⟨G + 1, 3, none⟩ (.int .u64 b')).setCell ⟨G + 1, 4, none⟩ (.int .i64 v')).setCell ⟨G + 1, 5, none⟩ (.slice A5 q c5) = w6 at *
        obtain ⟨r0, r1, r2, r3, r4, r5⟩ := hbx.cells HN.out.1 HN.out.2
        have hG := HG.out
        have hIle := HI.out.1.le
        have hbel := HI5.out.bel
        refine bodyPost_ret (v := .tuple #[.slice A2 n2 c2, .agg #[.int .i64 k', .string nb', .string mb', .int .u64 b', .int .i64 v', .slice A5 q c5], .int .i64 0]) (by simp [results, Tryd.results59, go_sem, r0, r1, r2, r3, r4, r5]) rfl ⟨A2, n2, c2, ps, .slice A5 q c5, ?_, ?_, ?_, ?_, HNn.out, ?_⟩
        · rw [HE.out, valT_mk HN.out.1 HN.out.2]
        · refine ((HI5.out.row.keepP (w' := w6) (fun b h1 h2 => hgr.block b h2 (fun e => by injection e with e; omega)) (fun b hb => hgr.block b hb.2 (fun e => by injection e with e; omega))).wide (fun b hb => ⟨by omega, Nat.lt_of_lt_of_le hb.2 hgr.size⟩)).lower (by omega)
        · rw [HE.out]
        · rw [HE.out]
          exact TAtP.keep _ HF5.out.1 (fun b hb => ⟨⟨by have := hb.1; have := HI.out.1.bel.size; omega, Nat.lt_of_lt_of_le hb.2 hgr.size⟩, hgr.block b hb.2 (fun e => by injection e with e; have := hb.1; omega)⟩)
        · exact hbel.grown hgr hbel.size (fun j e => by injection e with e; omega)
set_option maxRecDepth 100000 in
set_option maxHeartbeats 8000000 in
theorem rElements_any {w0 w : World} {t : Tm} {sl : Value} (h : TAt w w.heap.size t sl) (hz : sz t ≤ 4000) :
    Calls Tryd.prog 66 #[valT t sl] w fun e w' => ∃ A n c ps sl', e = .returned (.tuple #[.slice A n c, valT (elems t).2 sl']) ∧ RowB w' w.heap.size A n c ps ∧ ps.map (·.1) = (elems t).1 ∧ TAtP w' (fun b => w.heap.size ≤ b ∧ b < w'.heap.size) (elems t).2 sl' ∧ n ≤ 4000 ∧ Below w.heap.size w w' := by
  obtain ⟨T, hT⟩ : ∃ T, t = T := ⟨_, rfl⟩
  have HLn := Lib.hid (show (elems T).1.length ≤ 4000 by rw [← hT]; have := elems_len t; omega)
  rw [hT]
  obtain ⟨k, n, m, b, v, ts, nb, mb, A, c, hT2, rfl, hnb, hmb, hl1, hl2, hl3, hv, hs1, hs2⟩ := h.letters
  rw [hT] at hT2 hv h
  rw [hv]
  obtain ⟨L, hL⟩ : ∃ L, ts.length = L := ⟨_, rfl⟩
  rw [hL] at h ⊢
  obtain ⟨W1, hW1⟩ : ∃ W1, w.alloc (.cells #[.int .i64 k, .string nb, .string mb, .int .u64 b, .int .i64 v, .slice A L c] 25) = W1 := ⟨_, rfl⟩
  obtain ⟨W2, hW2⟩ : ∃ W2, W1.alloc (.cells #[.int .i64 0, .string ⟨#[]⟩, .string ⟨#[]⟩, .int .u64 0, .int .i64 0, .slice none 0 0] 25) = W2 := ⟨_, rfl⟩
  have hb1 : Below w.heap.size w W1 := by rw [← hW1]; exact (Below.refl _ _).alloc (Nat.le_refl _) _
  have s1 : W1.heap.size = w.heap.size + 1 := by rw [← hW1]; simp
  have hb2 : Below W1.heap.size W1 W2 := by rw [← hW2]; exact (Below.refl _ _).alloc (Nat.le_refl _) _
  have s2 : W2.heap.size = W1.heap.size + 1 := by rw [← hW2]; simp
  have hX1 : TBox W1 w.heap.size (.mk k n m b v ts) (.slice A L c) := by rw [← hW1]; exact TBox.new w hnb hmb
  have hX2 : TBox W2 W1.heap.size zeroT (.slice none 0 0) := by rw [← hW2]; exact heap_alloc_new W1 _
  have hX1' := hX1.below hb2
  rw [s1] at hX2
  obtain ⟨x0, x1, x2, x3, x4, x5⟩ := hX1'.cells hnb hmb
  have hb12 := hb1.trans (hb2.mono (by omega))
  have HI0 := Lib.hid (show El0 w w.heap.size none 0 0 [] (.mk k n m b v ts) (.slice A L c) W2 from ⟨hb12, by omega, hX1', hX2, TRow.nil _ _ _⟩)
  rw [hT2] at h
  have HS0 := Lib.hid (show TAt w w.heap.size (.mk k n m b v ts) (.slice A L c) ∧ elems T = (([] : List (Tm × Value)).map (·.1) ++ (elems (.mk k n m b v ts)).1, (elems (.mk k n m b v ts)).2) from ⟨h, by rw [hT2]; rfl⟩)

  subst hW1
  subst hW2
  clear hv hX1 hX2 hX1' hb1 hb2 hb12 s1 s2 hT hT2 hs1 hs2 h
  go_enter Tryd.func66, Tryd.ntmps66
  go_upto_region 2 with fail
  have HI1 := HI0
  clear HI0 x0 x1 x2 x3 x4 x5
  obtain ⟨G, hG⟩ : ∃ G, w.heap.size = G := ⟨_, rfl⟩
  have HG := Lib.hid hG
  rw [hG] at HI1 ⊢
  clear hG
  go_loopw [4] (fun vo wr => ∃ A n c ps cur sl, vo = .slice A n c ∧ Hid (El0 w G A n c ps cur sl wr ∧ TAt w w.heap.size cur sl ∧ elems T = (ps.map (·.1) ++ (elems cur).1, (elems cur).2))) (fun vo _ => 4000 - lenOf vo)
  case atStart => exact ⟨none, 0, 0, [], _, _, rfl, Lib.hid ⟨HI1.out, HS0.out⟩⟩
  case round =>
    obtain ⟨A2, n2, c2, ps, cur, sl2, rfl, HI⟩ := hrel
    obtain ⟨k', n', m', b', v', ts', nb', mb', A', c', rfl, rfl, hnb', hmb', hm1, hm2, hm3, hv', hs1', hs2'⟩ := HI.out.2.1.letters
    obtain ⟨q, hq⟩ : ∃ q, ts'.length = q := ⟨_, rfl⟩
    rw [hq] at HI hm1 hm3
    have hqI : (q : Int) ≤ 1759218604400 := by unfold maxArgs at hm3; omega
    obtain ⟨y0, y1, y2, y3, y4, y5⟩ := HI.out.1.t1.cells hnb' hmb'
    have HN := Lib.hid (And.intro hnb' hmb')
    have hnl : nb'.toList = n' := by rw [ByteArray.toList_eq, ← hnb']
    have HQ := Lib.hid hq
    by_cases hd : k' = 5 ∧ n' = sDot ∧ ts'.length = 2
    · obtain ⟨rfl, rfl, h2⟩ := hd
      have hq2 : q = 2 := by omega
      subst hq2
      obtain ⟨x, y, rfl⟩ : ∃ x y, ts' = [x, y] := by
        match ts', h2 with
        | [x, y], _ => exact ⟨x, y, rfl⟩
      have s1 : (nb'.toList == [46]) = true := by rw [hnl]; rfl
      have hcu := HI.out.2.1
      obtain ⟨g, o, rfl, hgw, ex0⟩ := hcu.arg (i := 0) (a := x) rfl
      obtain ⟨g1, o1, e9, hg1, ey0⟩ := hcu.arg (i := 1) (a := y) rfl
      cases e9
      have hbl := HI.out.1.bel.block g hgw
      obtain ⟨A3, c3, k3, n3, m3, b3, v3, ts3, nb3, mb3, rfl, hnb3, hmb3, hta, e0, e1, e2, e3, e4, e5⟩ := EltAt.cells ex0
      obtain ⟨A4, c4, k4, n4, m4, b4, v4, ts4, nb4, mb4, rfl, hnb4, hmb4, htb, f0, f1, f2, f3, f4, f5⟩ := EltAt.cells ey0
      rw [Nat.zero_mul, Nat.add_zero] at e0 e1 e2 e3 e4 e5
      rw [Nat.one_mul] at f0 f1 f2 f3 f4 f5
      obtain ⟨q3, hq3⟩ : ∃ q, ts3.length = q := ⟨_, rfl⟩
      obtain ⟨q4, hq4⟩ : ∃ q, ts4.length = q := ⟨_, rfl⟩
      have HCl := Lib.hid (fresh_letters hnb3 hmb3 hq3 (ROwn_any _ wr _ (hta.to HI.out.1.bel HI.out.1.bel.size)))
      rw [valT_mk hnb3 hmb3, hq3] at HCl
      have HN3 := Lib.hid (And.intro hnb3 hmb3)
      have HN4 := Lib.hid (And.intro hnb4 hmb4)
      have hel := elems_dot (m := m') (b := b') (v := v') (x := .mk k3 n3 m3 b3 v3 ts3) (y := .mk k4 n4 m4 b4 v4 ts4)
      have HLt := Lib.hid (show n2 < 4000 by
        have h8 := el_len HI.out.2.2 HI.out.1.row.len
        rw [hel] at h8
        simp only [List.length_cons] at h8
        have := HLn.out
        omega)
      rw [hq3] at e5
      rw [hq4] at f5 htb
      have HY2 := Lib.hid (And.intro htb (show elems T = ((ps ++ [((.mk k3 n3 m3 b3 v3 ts3 : Tm), Value.slice none 0 0)]).map (·.1) ++ (elems (.mk k4 n4 m4 b4 v4 ts4)).1, (elems (.mk k4 n4 m4 b4 v4 ts4)).2) from by
        have h9 := HI.out.2.2
        rw [hel] at h9
        rw [h9]
        simp))
      have HGW := Lib.hid (And.intro hgw hbl)
      have HEf := Lib.hid (And.intro f0 (And.intro f1 (And.intro f2 (And.intro f3 (And.intro f4 f5)))))
      have i0 := (World.cell?_of_block (a := ⟨g, o, none⟩) hbl).trans e0
      have i1 := (World.cell?_of_block (a := ⟨g, o + 1, none⟩) hbl).trans e1
      have i2 := (World.cell?_of_block (a := ⟨g, o + 2, none⟩) hbl).trans e2
      have i3 := (World.cell?_of_block (a := ⟨g, o + 3, none⟩) hbl).trans e3
      have i4 := (World.cell?_of_block (a := ⟨g, o + 4, none⟩) hbl).trans e4
      have i5 := (World.cell?_of_block (a := ⟨g, o + 5, none⟩) hbl).trans e5
      clear ex0 ey0 hta htb hnb' hmb' hnb3 hmb3 hnb4 hmb4 hnl hq hq3 hq4 h2 hcu hgw hg1 hel hv' hs1' hs2' e0 e1 e2 e3 e4 e5 f0 f1 f2 f3 f4 f5 hbl
      go_wp2_with (first
        | (go_at_call 8; (with_reducible refine HCl.out.mono ?_); rintro e w3 ⟨A5, c5, rfl, hf5, hb5⟩; have HF5 := Lib.hid (And.intro hf5 hb5); clear hf5 hb5)
        | (at_builtin; refine wpList_app1 rfl _ _ rfl rfl rfl HI.out.1.row (by have := HI.out.1.le; omega) HF5.out.2 HF5.out.1 HN3.out.1 HN3.out.2 (by have := HLt.out; unfold maxArgs; omega) ?_; intro A6 c6 w6 hr6 hb6 hs6; have HE6 := Lib.hid (HI.out.1.app HG.out hr6 hb6); have hgb : w6.heap[g]? = w.heap[g]? := (hb6.block g (by have := HGW.out.1; have := HG.out; omega)).trans HGW.out.2; obtain ⟨f0, f1, f2, f3, f4, f5⟩ := HEf.out; have p0 := (World.cell?_of_block (a := ⟨g, o + 6, none⟩) hgb).trans f0; have p1 := (World.cell?_of_block (a := ⟨g, o + 6 + 1, none⟩) hgb).trans f1; have p2 := (World.cell?_of_block (a := ⟨g, o + 6 + 2, none⟩) hgb).trans f2; have p3 := (World.cell?_of_block (a := ⟨g, o + 6 + 3, none⟩) hgb).trans f3; have p4 := (World.cell?_of_block (a := ⟨g, o + 6 + 4, none⟩) hgb).trans f4; have p5 := (World.cell?_of_block (a := ⟨g, o + 6 + 5, none⟩) hgb).trans f5; obtain ⟨r0, r1, r2, r3, r4, r5⟩ := HE6.out.t1.cells HN.out.1 HN.out.2; obtain ⟨z0, z1, z2, z3, z4, z5⟩ := HE6.out.t1.frozens; clear f0 f1 f2 f3 f4 f5 hgb hr6 hb6 hs6))
      go_roundw
      case rel =>
        obtain ⟨hbx, hgr⟩ := HE6.out.t1.set6 (k := k4) (b := b4) (v := v4) (n := n4) (m := m4) ts4 (.slice A4 q4 c4) HN4.out.1 HN4.out.2
        refine ⟨A6, n2 + 1, c6, _, _, _, rfl, Lib.hid ⟨HE6.out.set HG.out hbx hgr, HY2.out.1, ?_⟩⟩
        rw [HY2.out.2]
        simp
      case measure =>
        have := HLt.out
        show 4000 - (n2 + 1) < 4000 - n2
        omega
    · have hel := elems_not (m := m') (b := b') (v := v') hd
      have h9 := HI.out.2.2
      rw [hel] at h9
      have HCl := Lib.hid (fresh_letters hnb' hmb' hq (ROwn_any _ wr _ (HI.out.2.1.to HI.out.1.bel HI.out.1.bel.size)))
      rw [valT_mk hnb' hmb'] at HCl
      have HE := Lib.hid (show elems T = (ps.map (·.1), .mk k' n' m' b' v' ts') from by rw [h9]; simp)
      have HNn := Lib.hid (show n2 ≤ 4000 by have h8 := el_len HI.out.2.2 HI.out.1.row.len; have := HLn.out; omega)
      have h3 : (k' == 5) = false ∨ (k' = 5 ∧ (nb'.toList == [46]) = false) ∨ (k' = 5 ∧ (nb'.toList == [46]) = true ∧ ((q : Int) == 2) = false) := by
        by_cases e1 : k' = 5
        · by_cases e2 : n' = sDot
          · refine .inr (.inr ⟨e1, by rw [hnl, e2]; rfl, beq_eq_false_iff_ne.2 (fun e => hd ⟨e1, e2, by omega⟩)⟩)
          · exact .inr (.inl ⟨e1, by rw [hnl]; exact beq_eq_false_iff_ne.2 e2⟩)
        · exact .inl (beq_eq_false_iff_ne.2 e1)
      clear h9 hel hd hnl hnb' hmb' hq hv' hs1' hs2'
      have h3 : (k' == 5) = false ∨ ((k' == 5) = true ∧ (nb'.toList == [46]) = false) ∨ ((k' == 5) = true ∧ (nb'.toList == [46]) = true ∧ ((q : Int) == 2) = false) := by
        rcases h3 with s0 | ⟨e5, s1⟩ | ⟨e5, s1, s2⟩
        · exact .inl s0
        · exact .inr (.inl ⟨by simp [e5], s1⟩)
        · exact .inr (.inr ⟨by simp [e5], s1, s2⟩)
      rcases h3 with s0 | ⟨s0, s1⟩ | ⟨s0, s1, s2⟩
      all_goals
        go_wp2_with (go_at_call 8; (with_reducible refine HCl.out.mono ?_); rintro e w3 ⟨A5, c5, rfl, hf5, hb5⟩; have HI5 := Lib.hid (HI.out.1.below hb5); have HF5 := Lib.hid (And.intro hf5 hb5); obtain ⟨u0, u1, u2, u3, u4, u5⟩ := HI5.out.t2.cells rfl rfl; obtain ⟨z0, z1, z2, z3, z4, z5⟩ := HI5.out.t2.frozens; clear hf5 hb5)
        obtain ⟨hbx, hgr⟩ := HI5.out.t2.set6 (k := k') (b := b') (v := v') (n := n') (m := m') ts' (.slice A5 q c5) HN.out.1 HN.out.2
        generalize (((((w3.setCell ⟨G + 1, 0, none⟩ (.int .i64 k')).setCell ⟨G + 1, 1, none⟩ (.string nb')).setCell ⟨G + 1, 2, none⟩ (.string mb')).setCell ⟨G + 1, 3, none⟩ (.int .u64 b')).setCell ⟨G + 1, 4, none⟩ (.int .i64 v')).setCell ⟨G + 1, 5, none⟩ (.slice A5 q c5) = w6 at *
        obtain ⟨r0, r1, r2, r3, r4, r5⟩ := hbx.cells HN.out.1 HN.out.2
        have hG := HG.out
        have hIle := HI.out.1.le
        have hbel := HI5.out.bel
        refine bodyPost_ret (v := .tuple #[.slice A2 n2 c2, .agg #[.int .i64 k', .string nb', .string mb', .int .u64 b', .int .i64 v', .slice A5 q c5]]) (by simp [results, Tryd.results66, go_sem, r0, r1, r2, r3, r4, r5]) rfl ⟨A2, n2, c2, ps, .slice A5 q c5, ?_, ?_, ?_, ?_, HNn.out, ?_⟩
        · rw [HE.out, valT_mk HN.out.1 HN.out.2]
        · refine ((HI5.out.row.keepP (w' := w6) (fun b h1 h2 => hgr.block b h2 (fun e => by injection e with e; omega)) (fun b hb => hgr.block b hb.2 (fun e => by injection e with e; omega))).wide (fun b hb => ⟨by omega, Nat.lt_of_lt_of_le hb.2 hgr.size⟩)).lower (by omega)
        · rw [HE.out]
        · rw [HE.out]
          exact TAtP.keep _ HF5.out.1 (fun b hb => ⟨⟨by have := hb.1; have := HI.out.1.bel.size; omega, Nat.lt_of_lt_of_le hb.2 hgr.size⟩, hgr.block b hb.2 (fun e => by injection e with e; have := hb.1; omega)⟩)
        · exact hbel.grown hgr hbel.size (fun j e => by injection e with e; omega)
end Go.Proofs.YtgfeainpeplphaaDoor
