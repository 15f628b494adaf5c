import Derived.Test.YtgfeainpeplphaaDoorJk
import Derived.Test.YtgfeainpeplphaaDoorJi
import Derived.Carry
import Derived.Maps.OwnSet
namespace Go.Proofs.YtgfeainpeplphaaDoor
open Go.RowKit Go.Maps Hb Ht
set_option linter.unusedVariables false
set_option linter.unusedSimpArgs false
attribute [local go_sem] Oper.semAt_some
/-! ### a map that is a set of numbers -/
def inR (x : Int) : Prop := -9223372036854775808 ≤ x ∧ x ≤ 9223372036854775807
def SetOf (w : World) (b : Nat) (l : List Int) : Prop := ∃ (D : DataW Unit) (N : Nat), w.ownsMap Tryd.prog 3 (plainElem Tryd.prog 3) b N D ∧ N ≤ l.length ∧ ∀ x, inR x → Maps.has D (.int .i64 x) = decide (x ∈ l)
theorem SetOf.made (w : World) : SetOf (w.alloc (.map #[] 0)) w.heap.size [] := ⟨_, 0, World.ownsMap_made w _ _ _, Nat.le_refl _, fun x _ => rfl⟩
theorem SetOf.lt {w : World} {b : Nat} {l : List Int} (h : SetOf w b l) : b < w.heap.size := let ⟨_, _, h1, _⟩ := h; h1.lt
theorem SetOf.kept {w w' : World} {b : Nat} {l : List Int} (h : SetOf w b l) (hb : w'.heap[b]? = w.heap[b]?) : SetOf w' b l := by
  obtain ⟨D, N, ⟨es, clock, h1, h3⟩, h2⟩ := h
  exact ⟨D, N, ⟨es, clock, hb.trans h1, h3⟩, h2⟩
theorem SetOf.look {w : World} {b : Nat} {l : List Int} (h : SetOf w b l) {x : Int} (hx : inR x) : ∃ c, (Instr.lookup 99 (.map (some b)) (.int .i64 x) true).run Tryd.prog w = .ok (.tuple #[.int .i64 c, .bool (decide (x ∈ l))]) w := by
  obtain ⟨D, N, h1, h2, h3⟩ := h
  obtain ⟨v, ps, hrun, hv⟩ := h1.look_ok (int_keyed Tryd.underlying3) Tryd.underlying99 (z := .int .i64 0) (by simp [Tryd.zeroValue3]) (plainElem_int Tryd.underlying3 (by decide)) (keyOf_int_mk Tryd.underlying3 (WalkArith.wf_i64 hx))
  obtain ⟨a, rfl, _⟩ := plainElem_int_inv Tryd.underlying3 hv
  exact ⟨a, by rw [hrun, h3 x hx]⟩
theorem wpList_store_z {w : World} {ops : Array Oper} {rest : List Oper} {o : Oper} {a : Act} {Q : Exit → Act → World → Prop}
    (hg : o.guard = none) (m x v : Operand) (hop : o.op = Op.mapUpdate 99 m x v)
    {b : Nat} {l : List Int} {y c : Int} (hm : a.eval m = .map (some b)) (hx : a.eval x = .int .i64 y) (hv : a.eval v = .int .i64 c) (hown : SetOf w b l) (hl : l.length ≤ BigN) (hy : inR y) (hc : inR c)
    (hK : ∀ w', SetOf w' b (l ++ [y]) → w.grownBy w' (some b) → wpList Tryd.prog ops Q rest (a.put o.dst undef) w') :
    wpList Tryd.prog ops Q (o :: rest) a w := by
  obtain ⟨D, N, h1, h2, h3⟩ := hown
  have hkey := keyOf_int_mk Tryd.underlying3 (WalkArith.wf_i64 hy)
  refine wpList_mapUpdate_own w hg m x v 99 hop 3 3 (int_keyed Tryd.underlying3) Tryd.underlying99 (plainElem Tryd.prog 3) b N D hm h1 (by unfold BigN at hl; unfold maxLen; omega) _ _ _ hx hv hkey _ [] (plainElem_int Tryd.underlying3 (WalkArith.wf_i64 hc)) ?_
  intro w' r1 r2
  refine hK w' ⟨_, _, r1, by simp; omega, fun z hz => ?_⟩ r2
  have hIs := h1.isMap
  have hkl := (int_keyed (P := Tryd.prog) Tryd.underlying3).key hkey
  by_cases e : z = y
  · subst e
    rw [has_put_same hIs hkl]
    simp
  · rw [has_put_other (fun e2 => e (by injection e2)), h3 z hz]
    simp [e]
/-! ### term.walk and what it is handed -/
/-- what may be written: the list's variable, the map, the list's own block -/
structure Fr (Ob mb : Nat) (r : Option Nat) (w w' : World) : Prop where
  os : w'.os = w.os
  tape : w'.tape = w.tape
  output : w'.output = w.output
  size : w.heap.size ≤ w'.heap.size
  block : ∀ b, b < w.heap.size → b ≠ Ob → b ≠ mb → some b ≠ r → w'.heap[b]? = w.heap[b]?
theorem Fr.refl (Ob mb : Nat) (r : Option Nat) (w : World) : Fr Ob mb r w w := ⟨rfl, rfl, rfl, Nat.le_refl _, fun _ _ _ _ _ => rfl⟩
theorem Fr.below {Ob mb : Nat} {r : Option Nat} {w w' : World} (h : Below w.heap.size w w') : Fr Ob mb r w w' := ⟨h.os, h.tape, h.output, h.size, fun b hb _ _ _ => h.block b hb⟩
theorem Fr.trans {Ob mb : Nat} {r r1 : Option Nat} {w w1 w2 : World} (h : Fr Ob mb r w w1) (hm : Mov w r r1) (h2 : Fr Ob mb r1 w1 w2) : Fr Ob mb r w w2 :=
  ⟨h2.os.trans h.os, h2.tape.trans h.tape, h2.output.trans h.output, Nat.le_trans h.size h2.size, fun b hb h3 h4 h5 => (h2.block b (Nat.lt_of_lt_of_le hb h.size) h3 h4 (fun e => by
    rcases hm with hm | ⟨g, hm, hg⟩
    · rw [hm] at e; exact h5 e
    · rw [hm] at e; injection e with e; omega)).trans (h.block b hb h3 h4 h5)⟩
structure VS (w : World) (Sb Ob mb : Nat) (A : Option Addr) (n c : Nat) (out : List Int) : Prop where
  s : w.heap[Sb]? = some (.cells #[.map (some mb)] 99 (0, 0))
  o : w.heap[Ob]? = some (.cells #[.slice A n c] 57 (0, 0))
  own : Own 3 w 0 A n c (zs out)
  m : SetOf w mb out
  ne : Sb ≠ Ob ∧ Sb ≠ mb ∧ Ob ≠ mb
  nr : (Value.slice A n c).ownBlock ≠ some Sb ∧ (Value.slice A n c).ownBlock ≠ some Ob ∧ (Value.slice A n c).ownBlock ≠ some mb
theorem VS.below {w w' : World} {Sb Ob mb n c : Nat} {A : Option Addr} {out : List Int} (h : VS w Sb Ob mb A n c out) (hb : Below w.heap.size w w') : VS w' Sb Ob mb A n c out :=
  ⟨(hb.block Sb (Array.getElem?_eq_some_iff.1 h.s).1).trans h.s, (hb.block Ob (Array.getElem?_eq_some_iff.1 h.o).1).trans h.o, own_kept h.own hb, h.m.kept (hb.block mb h.m.lt), h.ne, h.nr⟩
def one1 (x : Int) (out : List Int) : List Int := if x ∉ out then out ++ [x] else out
def EachPost (w : World) (Sb Ob mb : Nat) (r : Option Nat) (out : List Int) (e : Ending) (w' : World) : Prop :=
  e = .returned (.tuple #[]) ∧ ∃ A n c, VS w' Sb Ob mb A n c out ∧ Fr Ob mb r w w' ∧ Mov w r (Value.slice A n c).ownBlock
set_option maxRecDepth 100000 in
set_option maxHeartbeats 4000000 in
theorem each_any {w : World} {Sb Ob mb n c : Nat} {A : Option Addr} {out : List Int} (h : VS w Sb Ob mb A n c out) {x : Int} (hx : inR x) (hl : out.length < BigN) :
    Calls Tryd.prog 71 #[.int .i64 x, .pointer (some ⟨Sb, 0, none⟩), .pointer (some ⟨Ob, 0, none⟩)] w (EachPost w Sb Ob mb (Value.slice A n c).ownBlock (one1 x out)) := by
  have hn := Own.zlen h.own
  have hnI : (n : Int) < 1000000000000 := by unfold BigN at hl; omega
  obtain ⟨cc, hlk⟩ := h.m.look hx
  have cS := cell_of_one h.s
  have cO := cell_of_one h.o
  have fO := free_of_one h.o
  by_cases hv : x ∈ out
  · rw [decide_eq_true hv] at hlk
    have HE := Lib.hid (show VS w Sb Ob mb A n c (one1 x out) from by rw [one1, if_neg (by simp [hv])]; exact h)
    clear h hv hn hl
    go_enter Tryd.func71, Tryd.ntmps71
    go_wp2
    first
      | exact bodyPost_ret (results_none rfl _ _ _) rfl ⟨rfl, A, n, c, HE.out, Fr.refl _ _ _ _, .inl rfl⟩
      | exact bodyPost_end (results_none rfl _ _ _) rfl ⟨rfl, A, n, c, HE.out, Fr.refl _ _ _ _, .inl rfl⟩
  · rw [decide_eq_false hv] at hlk
    have HV := Lib.hid (And.intro h (And.intro hl (show one1 x out = out ++ [x] from by rw [one1, if_pos hv])))
    have HX := Lib.hid hx
    clear h hv hn hl hx
    go_enter Tryd.func71, Tryd.ntmps71
    go_wp2_with (first
      | (at_mapUpdate; refine wpList_store_z rfl _ _ _ rfl rfl rfl rfl HV.out.1.m (Nat.le_of_lt HV.out.2.1) HX.out ⟨by omega, by omega⟩ ?_; intro w2 hm2 hg2; (have hO2 := blk_ne hg2 HV.out.1.o HV.out.1.ne.2.2); (have cO2 := cell_of_one hO2); (have hb3 : Below w2.heap.size w2 (w2.alloc (.cells #[.int .i64 x] 3)) := (Below.refl _ _).alloc (Nat.le_refl _) _); (have H2 := Lib.hid (show (w2.alloc (.cells #[.int .i64 x] 3)).heap[Sb]? = some (.cells #[.map (some mb)] 99 (0, 0)) ∧ (w2.alloc (.cells #[.int .i64 x] 3)).heap[Ob]? = some (.cells #[.slice A n c] 57 (0, 0)) ∧ Own 3 (w2.alloc (.cells #[.int .i64 x] 3)) 0 A n c (zs out) ∧ SetOf (w2.alloc (.cells #[.int .i64 x] 3)) mb (out ++ [x]) ∧ (w2.alloc (.cells #[.int .i64 x] 3)).cell? ⟨w2.heap.size, 0, none⟩ = some (.int .i64 x) ∧ Fr Ob mb (Value.slice A n c).ownBlock w (w2.alloc (.cells #[.int .i64 x] 3)) from
          ⟨(hb3.block Sb (Array.getElem?_eq_some_iff.1 (blk_ne hg2 HV.out.1.s HV.out.1.ne.2.1)).1).trans (blk_ne hg2 HV.out.1.s HV.out.1.ne.2.1), (hb3.block Ob (Array.getElem?_eq_some_iff.1 hO2).1).trans hO2, own_kept (World.ownsRow.kept HV.out.1.own hg2 (.inr HV.out.1.nr.2.2)) hb3, hm2.kept (hb3.block mb hm2.lt), cell_of_one (heap_alloc_new w2 _), ⟨hb3.os.trans hg2.os, hb3.tape.trans hg2.tape, hb3.output.trans hg2.output, Nat.le_trans hg2.size hb3.size, fun b hb _ h4 _ => (hb3.block b (Nat.lt_of_lt_of_le hb hg2.size)).trans (hg2.block b hb (fun e => h4 (by injection e)))⟩⟩)); clear hm2 hg2 hb3 hO2)
      | (at_builtin; refine wpList_append_z rfl _ _ rfl A n c out rfl H2.out.2.2.1 _ x rfl H2.out.2.2.2.2.1 (by have := HV.out.2.1; have := Own.zlen HV.out.1.own; unfold BigN at *; omega) ?_; intro A5 c5 w5 ho5 hg5 hm5; (have hO5 : w5.heap[Ob]? = some (.cells #[.slice A n c] 57 (0, 0)) := (hg5.block Ob (Array.getElem?_eq_some_iff.1 H2.out.2.1).1 (fun e => HV.out.1.nr.2.1 e.symm)).trans H2.out.2.1); (have cO5 := cell_of_one hO5); (have fO5 := free_of_one hO5); (have H5 := Lib.hid (And.intro ho5 (And.intro hg5 (And.intro hm5 hO5)))); clear ho5 hg5 hm5 hO5))
    obtain ⟨ho5, hg5, hm5, hO5⟩ := H5.out
    obtain ⟨h2s, h2o, h2w, h2m, h2c, h2f⟩ := H2.out
    obtain ⟨hvs, hvl, hve⟩ := HV.out
    have hltS := (Array.getElem?_eq_some_iff.1 h2s).1
    have hltO := (Array.getElem?_eq_some_iff.1 h2o).1
    have hltm := h2m.lt
    have hnr : ∀ q, q < (w2.alloc (.cells #[.int .i64 x] 3)).heap.size → (Value.slice A n c).ownBlock ≠ some q → (Value.slice A5 (n + 1) c5).ownBlock ≠ some q := fun q hq hne => by
      rcases hm5 with hm | ⟨g, hm, hg⟩
      · rw [hm]; exact hne
      · rw [hm]; intro e; injection e with e; omega
    have HP := Lib.hid (show VS (w5.setCell ⟨Ob, 0, none⟩ (.slice A5 (n + 1) c5)) Sb Ob mb A5 (n + 1) c5 (one1 x out) from by
      rw [hve]
      refine ⟨?_, one_setCell hO5, ?_, ?_, hvs.ne, ⟨hnr Sb hltS hvs.nr.1, hnr Ob hltO hvs.nr.2.1, hnr mb hltm hvs.nr.2.2⟩⟩
      · exact (Below.heap_setCell _ _ _ Sb hvs.ne.1).trans ((hg5.block Sb hltS (fun e => hvs.nr.1 e.symm)).trans h2s)
      · exact Own.far ho5 (fun g hg e => hnr Ob hltO hvs.nr.2.1 (by rw [hg, e]; rfl)) _
      · exact h2m.kept ((Below.heap_setCell _ _ _ mb (fun e => hvs.ne.2.2 e.symm)).trans (hg5.block mb hltm (fun e => hvs.nr.2.2 e.symm))))
    have HF := Lib.hid (show Fr Ob mb (Value.slice A n c).ownBlock w (w5.setCell ⟨Ob, 0, none⟩ (.slice A5 (n + 1) c5)) from
      ⟨hg5.os.trans h2f.os, hg5.tape.trans h2f.tape, hg5.output.trans h2f.output, by have := h2f.size; have := hg5.size; simp [World.setCell]; omega, fun b hb h3 h4 h5 => (Below.heap_setCell _ _ _ b h3).trans ((hg5.block b (Nat.lt_of_lt_of_le hb h2f.size) h5).trans (h2f.block b hb h3 h4 h5))⟩)
    have HMv := Lib.hid (show Mov w (Value.slice A n c).ownBlock (Value.slice A5 (n + 1) c5).ownBlock from by
      rcases hm5 with hm | ⟨g, hm, hg⟩
      · exact .inl hm
      · exact .inr ⟨g, hm, Nat.le_trans h2f.size hg⟩)
    first
      | exact bodyPost_ret (results_none rfl _ _ _) rfl ⟨rfl, A5, n + 1, c5, HP.out, HF.out, HMv.out⟩
      | exact bodyPost_end (results_none rfl _ _ _) rfl ⟨rfl, A5, n + 1, c5, HP.out, HF.out, HMv.out⟩
theorem VS.lt {w : World} {Sb Ob mb n c : Nat} {A : Option Addr} {out : List Int} (h : VS w Sb Ob mb A n c out) : Sb < w.heap.size ∧ Ob < w.heap.size ∧ mb < w.heap.size ∧ (∀ g, (Value.slice A n c).ownBlock = some g → g < w.heap.size) :=
  ⟨(Array.getElem?_eq_some_iff.1 h.s).1, (Array.getElem?_eq_some_iff.1 h.o).1, h.m.lt, own_lt h.own⟩
def eachV (Sb Ob : Nat) : Value := .func (.func 71) #[] #[.pointer (some ⟨Sb, 0, none⟩), .pointer (some ⟨Ob, 0, none⟩)]
/-- blocks that the walk does not write -/
def Kp (w : World) (Ob mb : Nat) (r : Option Nat) (b : Nat) : Prop := b < w.heap.size ∧ b ≠ Ob ∧ b ≠ mb ∧ r ≠ some b
theorem Kp.keep {w w1 : World} {Ob mb : Nat} {r r1 : Option Nat} {t : Tm} {sl : Value} (h : TAtP w (Kp w Ob mb r) t sl) (hf : Fr Ob mb r w w1) (hm : Mov w r r1) : TAtP w1 (Kp w1 Ob mb r1) t sl :=
  TAtP.keep _ h (fun b hb => ⟨⟨Nat.lt_of_lt_of_le hb.1 hf.size, hb.2.1, hb.2.2.1, fun e => by
    rcases hm with hm | ⟨g, hm, hg⟩
    · rw [hm] at e; exact hb.2.2.2 e
    · rw [hm] at e; injection e with e; have := hb.1; omega⟩, hf.block b hb.1 hb.2.1 hb.2.2.1 (fun e => hb.2.2.2 e.symm)⟩)
def WalkOk (t : Tm) : Prop := ∀ (w : World) (sl : Value) (Sb Ob mb : Nat) (A : Option Addr) (n c : Nat) (out : List Int), VS w Sb Ob mb A n c out → TAtP w (Kp w Ob mb (Value.slice A n c).ownBlock) t sl → out.length + sz t ≤ BigN →
  Calls Tryd.prog 70 #[valT t sl, eachV Sb Ob] w (EachPost w Sb Ob mb (Value.slice A n c).ownBlock (vars t out))
set_option maxRecDepth 100000 in
set_option maxHeartbeats 8000000 in
theorem walk_any (t : Tm) : WalkOk t := by
  refine Tm.ind (p := WalkOk) (fun k nl ml b v ts ih => ?_) t
  intro w sl Sb Ob mb' A0 n0 c0 out hvs h hsz
  have hok := TAtP.ok h
  obtain ⟨nb, hnb⟩ : ∃ nb : ByteArray, (⟨nl.toArray⟩ : ByteArray) = nb := ⟨_, rfl⟩
  obtain ⟨mb, hmb⟩ : ∃ mb : ByteArray, (⟨ml.toArray⟩ : ByteArray) = mb := ⟨_, rfl⟩
  obtain ⟨A, c, rfl, hl1, hl2, hl3, _, _⟩ := TAtP.iff.1 h
  obtain ⟨L, hL⟩ : ∃ L, ts.length = L := ⟨_, rfl⟩
  change ts.length ≤ c at hl1
  change ts.length ≤ maxArgs at hl3
  change TAtP w _ (.mk k nl ml b v ts) (.slice A ts.length c) at h
  change Calls Tryd.prog _ #[valT _ (.slice A ts.length c), _] w _
  rw [valT_mk hnb hmb]
  rw [hL] at h hl1 hl3 ⊢
  obtain ⟨R, hR⟩ : ∃ R, vars (.mk k nl ml b v ts) out = R := ⟨_, rfl⟩
  rw [hR]
  obtain ⟨r0, hr0⟩ : ∃ r0, (Value.slice A0 n0 c0).ownBlock = r0 := ⟨_, rfl⟩
  rw [hr0] at h ⊢
  obtain ⟨out1, hout1⟩ : ∃ o, (if k = 1 ∧ v ∉ out then out ++ [v] else out) = o := ⟨_, rfl⟩
  have hRs : varss ts out1 = R := by rw [← hR, ← hout1]; rfl
  have hlen : out1.length ≤ out.length + 1 := by rw [← hout1]; split <;> simp
  have hszs : out1.length + szs ts ≤ BigN ∧ out.length < BigN := by simp only [sz] at hsz; omega
  have hLI : (L : Int) ≤ 1759218604400 := by unfold maxArgs at hl3; omega
  obtain ⟨W1, hW1⟩ : ∃ W1, w.alloc (.cells #[.int .i64 k, .string nb, .string mb, .int .u64 b, .int .i64 v, .slice A L c] 25) = W1 := ⟨_, rfl⟩
  have hb1 : Below w.heap.size w W1 := by rw [← hW1]; exact (Below.refl _ _).alloc (Nat.le_refl _) _
  have hX : TBox W1 w.heap.size (.mk k nl ml b v ts) (.slice A L c) := by rw [← hW1]; exact TBox.new w hnb hmb
  have hs1 : W1.heap.size = w.heap.size + 1 := by rw [← hW1]; simp
  obtain ⟨x0, x1, x2, x3, x4, x5⟩ := hX.cells hnb hmb
  have hlts := hvs.lt
  rw [hr0] at hlts
  have HIH := Lib.hid ih
  have HL := Lib.hid hL
  have HM := Lib.hid (And.intro hnb hmb)
  have HT := Lib.hid (show TAtP W1 (Kp W1 Ob mb' r0) (.mk k nl ml b v ts) (.slice A L c) from TAtP.keep _ h (fun b hb => ⟨⟨Nat.lt_of_lt_of_le hb.1 hb1.size, hb.2⟩, hb1.block b hb.1⟩))
  have HB1 := Lib.hid (And.intro hb1 (And.intro hX hlts))
  have HV0 := Lib.hid (And.intro (hvs.below hb1) hr0)
  have HR := Lib.hid (And.intro hRs hszs)
  have HOu := Lib.hid hout1
  have HEa := Lib.hid (fun u (hb : u = W1) => show Calls Tryd.prog 71 #[.int .i64 v, .pointer (some ⟨Sb, 0, none⟩), .pointer (some ⟨Ob, 0, none⟩)] u (EachPost W1 Sb Ob mb' r0 (one1 v out)) from by
    have h9 := each_any (hvs.below hb1) (x := v) hok.2.2.2.1 hszs.2
    rw [hr0] at h9
    rw [hb]
    exact h9)
  have HWe := Lib.hid hW1
  rw [← HWe.out] at x0 x1 x2 x3 x4 x5
  clear ih h hvs hsz hR hRs hszs hlen hnb hmb hL hb1 hX hr0 hW1 hs1 hlts hok hout1
  rw [show eachV Sb Ob = .func (.func 71) #[] #[.pointer (some ⟨Sb, 0, none⟩), .pointer (some ⟨Ob, 0, none⟩)] from rfl]
  go_enter Tryd.func70, Tryd.ntmps70
  have h2 : (k == 1) = false ∨ (k == 1) = true := by cases (k == 1) <;> simp
  rcases h2 with s0 | s0
  focus
    have HV := Lib.hid (show VS W1 Sb Ob mb' A0 n0 c0 out1 ∧ Fr Ob mb' r0 W1 W1 ∧ Mov W1 r0 (Value.slice A0 n0 c0).ownBlock from ⟨by
      have e : out1 = out := by rw [← HOu.out, if_neg (fun h => by rw [h.1] at s0; simp at s0)]
      rw [e]; exact HV0.out.1, Fr.refl _ _ _ _, .inl HV0.out.2⟩)
    go_upto_region 4 with fail
    rw [HWe.out]
  rotate_left
  focus
    go_upto_region 4 with (go_at_call 71; (with_reducible refine (HEa.out _ HWe.out).mono ?_); rintro e w2 ⟨rfl, A5, n5, c5, hv5, hf5, hm5⟩; have HV := Lib.hid (show VS w2 Sb Ob mb' A5 n5 c5 out1 ∧ Fr Ob mb' r0 W1 w2 ∧ Mov W1 r0 (Value.slice A5 n5 c5).ownBlock from ⟨by
      have e : out1 = one1 v out := by rw [← HOu.out, one1]; simp at s0; simp [s0]
      rw [e]; exact hv5, hf5, hm5⟩); obtain ⟨y0, y1, y2, y3, y4, y5⟩ := (show TBox w2 w.heap.size (.mk k nl ml b v ts) (.slice A L c) from (hf5.block _ HB1.out.2.1.lt (by have := HB1.out.2.2.2.1; omega) (by have := HB1.out.2.2.2.2.1; omega) (fun e => by have := HB1.out.2.2.2.2.2 _ e.symm; omega)).trans HB1.out.2.1).cells HM.out.1 HM.out.2; clear hv5 hf5 hm5)
  rotate_left
  all_goals
    try clear x0 x1 x2 x3 x4 x5
    try clear y0 y1 y2 y3 y4 y5
    go_loopw [16] (fun v16 wr => ∃ A2 n2 c2 i out2, v16 = .int .i64 ((i : Nat) : Int) ∧ i ≤ L ∧ Hid (VS wr Sb Ob mb' A2 n2 c2 out2 ∧ Fr Ob mb' r0 W1 wr ∧ Mov W1 r0 (Value.slice A2 n2 c2).ownBlock ∧ varss (ts.drop i) out2 = R ∧ out2.length + szs (ts.drop i) ≤ BigN)) (fun v16 _ => ((L : Int) - intOf v16).toNat)
    case atStart => exact ⟨_, _, _, 0, out1, rfl, Nat.zero_le _, Lib.hid ⟨HV.out.1, HV.out.2.1, HV.out.2.2, HR.out.1, HR.out.2.1⟩⟩
    case round =>
      obtain ⟨A2, n2, c2, i, out2, rfl, hi, HI⟩ := hrel
      by_cases hlt : i < L
      · have hltI : (i : Int) < (L : Int) := by omega
        have hi0 : (0 : Int) ≤ (i : Int) := by omega
        have hil : i < ts.length := by rw [HL.out]; exact hlt
        obtain ⟨a, ha⟩ : ∃ a, ts[i]? = some a := ⟨_, List.getElem?_eq_getElem hil⟩
        have hTr := Kp.keep HT.out HI.out.2.1 HI.out.2.2.1
        obtain ⟨A', c', h1, _, _, _, _, hgo⟩ := TAtP.iff.1 hTr
        obtain ⟨g, o, hA, hPg, hel⟩ := hgo (fun e => by change ts = [] at e; rw [e] at ha; simp at ha)
        injection h1 with e1 e2 e3
        rw [hA] at e1
        subst e1
        clear e2 e3
        obtain ⟨A4, c4, k4, n4, m4, b4, v4, ts4, nb4, mb4, rfl, hnb4, hmb4, hta, q0, q1, q2, q3, q4, q5⟩ := EltP.cells (hel i a ha)
        obtain ⟨L4, hL4⟩ : ∃ q, ts4.length = q := ⟨_, rfl⟩
        rw [hL4] at q5 hta
        have HD := Lib.hid (show ts.drop i = .mk k4 n4 m4 b4 v4 ts4 :: ts.drop (i + 1) ∧ szs (ts.drop i) = sz (.mk k4 n4 m4 b4 v4 ts4) + szs (ts.drop (i + 1)) from ⟨by rw [List.drop_eq_getElem_cons hil, ← List.getElem?_eq_some_iff.1 ha |>.2], szs_drop ha⟩)
        obtain ⟨W4, hW4⟩ : ∃ W4, wr.alloc (.cells #[.int .i64 k4, .string nb4, .string mb4, .int .u64 b4, .int .i64 v4, .slice A4 L4 c4] 25) = W4 := ⟨_, rfl⟩
        have hb4 : Below wr.heap.size wr W4 := by rw [← hW4]; exact (Below.refl _ _).alloc (Nat.le_refl _) _
        have hX4 : TBox W4 wr.heap.size (.mk k4 n4 m4 b4 v4 ts4) (.slice A4 L4 c4) := by rw [← hW4]; exact TBox.new wr hnb4 hmb4
        obtain ⟨y0, y1, y2, y3, y4, y5⟩ := hX4.cells hnb4 hmb4
        have HCl := Lib.hid (HIH.out _ (List.mem_of_getElem? ha) W4 _ Sb Ob mb' A2 n2 c2 out2 (HI.out.1.below hb4) (TAtP.keep _ hta (fun b hb => ⟨⟨Nat.lt_of_lt_of_le hb.1 hb4.size, hb.2⟩, hb4.block b hb.1⟩)) (by have h8 := HI.out.2.2.2.2; rw [HD.out.2] at h8; omega))
        rw [valT_mk hnb4 hmb4, show eachV Sb Ob = .func (.func 71) #[] #[.pointer (some ⟨Sb, 0, none⟩), .pointer (some ⟨Ob, 0, none⟩)] from rfl] at HCl
        have HLT := Lib.hid hlt
        have HB4 := Lib.hid hb4
        subst hW4
        clear hlt hi hil ha hTr hgo hPg hel hta hnb4 hmb4 hL4 hb4 hX4
        go_wp2_with (go_at_call 70; (with_reducible refine HCl.out.mono ?_); rintro e w6 ⟨rfl, A6, n6, c6, hv6, hf6, hm6⟩; have H6 := Lib.hid (And.intro hv6 (And.intro hf6 hm6)); clear hv6 hf6 hm6)
        go_roundw
        case rel =>
          obtain ⟨hv6, hf6, hm6⟩ := H6.out
          have hf46 : Fr Ob mb' (Value.slice A2 n2 c2).ownBlock wr w6 := (Fr.below HB4.out).trans (.inl rfl) hf6
          refine ⟨A6, n6, c6, i + 1, _, rfl, HLT.out, Lib.hid ⟨hv6, HI.out.2.1.trans HI.out.2.2.1 hf46, HI.out.2.2.1.trans (by
            rcases hm6 with hm | ⟨g, hm, hg⟩
            · exact .inl hm
            · exact .inr ⟨g, hm, Nat.le_trans HB4.out.size hg⟩) HI.out.2.1.size, ?_, ?_⟩⟩
          · have h8 := HI.out.2.2.2.1
            rw [HD.out.1, varss] at h8
            exact h8
          · have h8 := HI.out.2.2.2.2
            rw [HD.out.2] at h8
            have := vars_len (.mk k4 n4 m4 b4 v4 ts4) out2
            omega
        case measure =>
          have := HLT.out
          show ((L : Int) - ((i : Int) + 1)).toNat < ((L : Int) - (i : Int)).toNat
          omega
      · have ei : i = L := by omega
        subst ei
        have HE9 := Lib.hid (show out2 = R from by
          have h8 := HI.out.2.2.2.1
          rw [List.drop_of_length_le (by rw [HL.out]; exact Nat.le_refl _), varss] at h8
          exact h8)
        clear hlt hi
        go_wp2
        have HP := Lib.hid (show EachPost w Sb Ob mb' r0 R (.returned (.tuple #[])) wr from ⟨rfl, A2, n2, c2, by rw [← HE9.out]; exact HI.out.1, (Fr.below HB1.out.1).trans (.inl rfl) HI.out.2.1, by
          rcases HI.out.2.2.1 with hm | ⟨q, hm, hq⟩
          · exact .inl hm
          · exact .inr ⟨q, hm, Nat.le_trans HB1.out.1.size hq⟩⟩)
        first
          | exact bodyPost_ret (results_none rfl _ _ _) rfl HP.out
          | exact bodyPost_end (results_none rfl _ _ _) rfl HP.out
theorem own_raise {w : World} {B n c : Nat} {A : Option Addr} {xs : List Value} (h : Own 3 w 0 A n c xs) (hb : ∀ g, (Value.slice A n c).ownBlock = some g → B ≤ g) : Own 3 w B A n c xs := by
  refine ⟨h.1, ?_⟩
  rcases h.2 with h1 | ⟨g, cap, cur, e, h2, h3⟩
  · exact .inl h1
  · exact .inr ⟨g, cap, cur, e, hb g (by rw [e]; rfl), h3⟩
/-! ### term.variables, term.Variables of one term -/
theorem varss_one {t : Tm} {out : List Int} : varss [t] out = vars t out := by rw [varss, varss]
set_option maxRecDepth 100000 in
set_option maxHeartbeats 8000000 in
theorem variables_any {w : World} {A : Option Addr} {c : Nat} {t : Tm} {sl : Value} (h : RowP w (fun b => b < w.heap.size) A 1 [(t, sl)]) (hsz : sz t ≤ 100000) :
    Calls Tryd.prog 58 #[.slice A 1 c] w fun e w' => ∃ A' n' c', e = .returned (.slice A' n' c') ∧ Own 3 w' w.heap.size A' n' c' (zs (vars t [])) ∧ Below w.heap.size w w' := by
  have hmf : ∀ (fn : Fn) (first cap : Array Value) (w : World), (Instr.makeFunc fn first cap).run Tryd.prog w = .ok (.func fn first cap) w := fun _ _ _ _ => rfl
  have hmm := @run_makeMap Tryd.prog
  obtain ⟨g, o, rfl, hg, hel⟩ := h.elt (i := 0) (p := (t, sl)) rfl
  obtain ⟨A4, c4, k4, n4, m4, b4, v4, ts4, nb4, mb4, rfl, hnb4, hmb4, hta, q0, q1, q2, q3, q4, q5⟩ := EltP.cells hel
  obtain ⟨L4, hL4⟩ : ∃ q, ts4.length = q := ⟨_, rfl⟩
  rw [hL4] at q5 hta
  rw [Nat.zero_mul, Nat.add_zero] at q0 q1 q2 q3 q4 q5
  obtain ⟨W1, hW1⟩ : ∃ W1, w.alloc (.cells #[.slice none 0 0] 57) = W1 := ⟨_, rfl⟩
  obtain ⟨W2, hW2⟩ : ∃ W2, W1.alloc (.map #[] 0) = W2 := ⟨_, rfl⟩
  obtain ⟨W3, hW3⟩ : ∃ W3, W2.alloc (.cells #[.map (some W1.heap.size)] 99) = W3 := ⟨_, rfl⟩
  have d1 : Below w.heap.size w W1 := by rw [← hW1]; exact (Below.refl _ _).alloc (Nat.le_refl _) _
  have s1 : W1.heap.size = w.heap.size + 1 := by rw [← hW1]; simp
  have d2 : Below W1.heap.size W1 W2 := by rw [← hW2]; exact (Below.refl _ _).alloc (Nat.le_refl _) _
  have s2 : W2.heap.size = W1.heap.size + 1 := by rw [← hW2]; simp
  have d3 : Below W2.heap.size W2 W3 := by rw [← hW3]; exact (Below.refl _ _).alloc (Nat.le_refl _) _
  have s3 : W3.heap.size = W2.heap.size + 1 := by rw [← hW3]; simp
  have X1 : W1.heap[w.heap.size]? = some (.cells #[.slice none 0 0] 57 (0, 0)) := by rw [← hW1]; exact heap_alloc_new w _
  have X2 : SetOf W2 W1.heap.size [] := by rw [← hW2]; exact SetOf.made W1
  have X3 : W3.heap[W2.heap.size]? = some (.cells #[.map (some W1.heap.size)] 99 (0, 0)) := by rw [← hW3]; exact heap_alloc_new W2 _
  have hbw : Below w.heap.size w W3 := d1.trans ((d2.trans (d3.mono (by omega))).mono (by omega))
  obtain ⟨G, hG⟩ : ∃ G, w.heap.size = G := ⟨_, rfl⟩
  have hVS : VS W3 W2.heap.size w.heap.size W1.heap.size none 0 0 [] := ⟨X3, (d3.block _ (by omega)).trans ((d2.block _ (by omega)).trans X1), ⟨rfl, .inl ⟨rfl, rfl⟩⟩, X2.kept (d3.block _ (by omega)), ⟨by omega, by omega, by omega⟩, by simp [Value.ownBlock]⟩
  rw [s2, s1, hG] at hVS
  have HN := Lib.hid (And.intro hnb4 (And.intro hmb4 hL4))
  have HT := Lib.hid (show ∀ x, Below w.heap.size w x → TAtP x (fun b => b < w.heap.size) (.mk k4 n4 m4 b4 v4 ts4) (.slice A4 L4 c4) ∧ x.heap[g]? = w.heap[g]? from fun x hb => ⟨hta.below hb (fun b hb => hb), hb.block g hg⟩)
  have HQ := Lib.hid (And.intro q0 (And.intro q1 (And.intro q2 (And.intro q3 (And.intro q4 q5)))))
  have HV := Lib.hid (And.intro hVS (And.intro hbw (And.intro hG hsz)))
  have HWe := Lib.hid (show ((w.alloc (.cells #[.slice none 0 0] 57)).alloc (.map #[] 0)).alloc (.cells #[.map (some (w.heap.size + 1))] 99) = W3 from by rw [hW1, hW2, ← s1, hW3])
  clear h hel hta q0 q1 q2 q3 q4 q5 hnb4 hmb4 hL4 d1 d2 d3 s1 s2 s3 X1 X2 X3 hbw hVS hW1 hW2 hW3 hsz hG
  go_enter Tryd.func58, Tryd.ntmps58
  go_upto_region 4 with fail
  rw [HWe.out, HV.out.2.2.1]
  go_loopw [10] (fun v10 wr => ∃ A n c i out2, v10 = .int .i64 ((i : Nat) : Int) ∧ i ≤ 1 ∧ Hid (VS wr (G + 1 + 1) G (G + 1) A n c out2 ∧ Fr G (G + 1) none W3 wr ∧ Mov W3 none (Value.slice A n c).ownBlock ∧ (i = 0 → out2 = []) ∧ (i = 1 → out2 = vars (.mk k4 n4 m4 b4 v4 ts4) []))) (fun v10 _ => (1 - intOf v10).toNat)
  case atStart => exact ⟨none, 0, 0, 0, [], rfl, Nat.zero_le _, Lib.hid ⟨HV.out.1, Fr.refl _ _ _ _, .inl rfl, fun _ => rfl, fun h => by omega⟩⟩
  case round =>
    obtain ⟨A2, n2, c2, i, out2, rfl, hi, HI⟩ := hrel
    have hbr : Below w.heap.size w wr := by
      have h1 := HV.out.2.1
      have h2 := HI.out.2.1
      have h3 := HV.out.2.2.1
      exact ⟨h2.os.trans h1.os, h2.tape.trans h1.tape, h2.output.trans h1.output, Nat.le_trans h1.size h2.size, fun j hj => (h2.block j (Nat.lt_of_lt_of_le hj h1.size) (by omega) (by omega) (by simp)).trans (h1.block j hj)⟩
    have HBr := Lib.hid hbr
    clear hbr
    by_cases hi0 : i = 0
    · subst hi0
      have hout := HI.out.2.2.2.1 rfl
      subst hout
      obtain ⟨htr, hgb⟩ := HT.out wr HBr.out
      obtain ⟨q0, q1, q2, q3, q4, q5⟩ := HQ.out
      have p0 := (World.cell?_of_block (a := ⟨g, o, none⟩) hgb).trans q0
      have p1 := (World.cell?_of_block (a := ⟨g, o + 1, none⟩) hgb).trans q1
      have p2 := (World.cell?_of_block (a := ⟨g, o + 2, none⟩) hgb).trans q2
      have p3 := (World.cell?_of_block (a := ⟨g, o + 3, none⟩) hgb).trans q3
      have p4 := (World.cell?_of_block (a := ⟨g, o + 4, none⟩) hgb).trans q4
      have p5 := (World.cell?_of_block (a := ⟨g, o + 5, none⟩) hgb).trans q5
      obtain ⟨W4, hW4⟩ : ∃ W4, wr.alloc (.cells #[.int .i64 k4, .string nb4, .string mb4, .int .u64 b4, .int .i64 v4, .slice A4 L4 c4] 25) = W4 := ⟨_, rfl⟩
      have hb4 : Below wr.heap.size wr W4 := by rw [← hW4]; exact (Below.refl _ _).alloc (Nat.le_refl _) _
      have hX4 : TBox W4 wr.heap.size (.mk k4 n4 m4 b4 v4 ts4) (.slice A4 L4 c4) := by rw [← hW4]; exact TBox.new wr HN.out.1 HN.out.2.1
      obtain ⟨y0, y1, y2, y3, y4, y5⟩ := hX4.cells HN.out.1 HN.out.2.1
      have hown : ∀ q, (Value.slice A2 n2 c2).ownBlock = some q → W3.heap.size ≤ q := fun q hq => by
        rcases HI.out.2.2.1 with hm | ⟨g2, hm, hg2⟩
        · rw [hm] at hq; cases hq
        · rw [hm] at hq; injection hq with hq; omega
      have HCl := Lib.hid (walk_any _ W4 _ (G + 1 + 1) G (G + 1) A2 n2 c2 [] (HI.out.1.below hb4) (TAtP.keep _ htr (fun b hb => ⟨⟨by have := HBr.out.size; have := hb4.size; omega, by have := HV.out.2.2.1; omega, by have := HV.out.2.2.1; omega, fun e => by have := hown b e; have := HV.out.2.1.size; omega⟩, hb4.block b (Nat.lt_of_lt_of_le hb HBr.out.size)⟩)) (by have := HV.out.2.2.2; unfold BigN; simp; omega))
      rw [valT_mk HN.out.1 HN.out.2.1, show eachV (G + 1 + 1) G = .func (.func 71) #[] #[.pointer (some ⟨G + 1 + 1, 0, none⟩), .pointer (some ⟨G, 0, none⟩)] from rfl] at HCl
      have HB4 := Lib.hid hb4
      subst hW4
      clear htr hgb q0 q1 q2 q3 q4 q5 hb4 hX4 hown
      go_wp2_with (go_at_call 70; (with_reducible refine HCl.out.mono ?_); rintro e w6 ⟨rfl, A6, n6, c6, hv6, hf6, hm6⟩; have H6 := Lib.hid (And.intro hv6 (And.intro hf6 hm6)); clear hv6 hf6 hm6)
      go_roundw
      case rel =>
        obtain ⟨hv6, hf6, hm6⟩ := H6.out
        have hf46 : Fr G (G + 1) (Value.slice A2 n2 c2).ownBlock wr w6 := (Fr.below HB4.out).trans (.inl rfl) hf6
        refine ⟨A6, n6, c6, 1, _, rfl, Nat.le_refl _, Lib.hid ⟨hv6, HI.out.2.1.trans HI.out.2.2.1 hf46, HI.out.2.2.1.trans (by
          rcases hm6 with hm | ⟨g, hm, hg⟩
          · exact .inl hm
          · exact .inr ⟨g, hm, Nat.le_trans HB4.out.size hg⟩) HI.out.2.1.size, fun h => by omega, fun _ => rfl⟩⟩
      case measure =>
        show (1 - (0 + 1) : Int).toNat < (1 - 0 : Int).toNat
        omega
    · have ei : i = 1 := by omega
      subst ei
      have hout := HI.out.2.2.2.2 rfl
      subst hout
      have cO := cell_of_one HI.out.1.o
      clear hi0
      go_wp2
      go_ret
      refine ⟨A2, n2, c2, rfl, own_raise HI.out.1.own (fun q hq => ?_), HBr.out⟩
      rcases HI.out.2.2.1 with hm | ⟨g2, hm, hg2⟩
      · rw [hm] at hq; cases hq
      · rw [hm] at hq; injection hq with hq; have := HV.out.2.1.size; omega
set_option maxRecDepth 100000 in
set_option maxHeartbeats 4000000 in
theorem Variables_any {w0 w : World} {A : Option Addr} {c : Nat} {t : Tm} {sl : Value} (h : RowP w (fun b => b < w.heap.size) A 1 [(t, sl)]) (hc : 1 ≤ c) (hck : checkP t = 0) (hU : UOk w0 w) :
    Calls Tryd.prog 28 #[.slice A 1 c] w fun e w' => ∃ A' n' c', e = .returned (.tuple #[.slice A' n' c', .int .i64 0]) ∧ Own 3 w' w.heap.size A' n' c' (zs (vars t [])) ∧ Below w.heap.size w w' := by
  have hC := checks_any (w0 := w0) (c := c) h (fun b hb => hb) (by unfold maxArgs; omega) hc hU
  have e0 : checksP ([(t, sl)].map (·.1)) = 0 := by
    show checksP [t] = 0
    unfold checksP checks
    rw [if_neg (by simpa using hck)]
    rfl
  rw [e0] at hC
  have hV := fun u (hb : Below w.heap.size w u) => variables_any (w := u) (c := c) ((h.below hb (fun b hb => hb)).wide' (fun b hb2 => Nat.lt_of_lt_of_le hb2 hb.size)) (by have := (check_iff.1 hck).1; omega)
  have HC := Lib.hid hC
  have HV := Lib.hid hV
  clear h hC hV hck hU e0
  go_enter Tryd.func28, Tryd.ntmps28
  go_wp2_with (first
    | (go_at_call 57; (with_reducible refine HC.out.mono ?_); rintro e w2 ⟨rfl, hb2⟩; have HB2 := Lib.hid hb2; clear hb2)
    | (go_at_call 58; (with_reducible refine (HV.out _ HB2.out).mono ?_); rintro e w3 ⟨A3, n3, c3, rfl, ho3, hb3⟩; have H3 := Lib.hid (And.intro (Own.mono ho3 HB2.out.size) (HB2.out.trans (hb3.mono HB2.out.size))); clear ho3 hb3))
  go_ret2
  exact ⟨A3, n3, c3, rfl, H3.out.1, H3.out.2⟩
end Go.Proofs.YtgfeainpeplphaaDoor
