import Derived.Test.YtgfeainpeplphaaDoorJg
namespace Go.Proofs.YtgfeainpeplphaaDoor
open Go.RowKit Hb Ht
set_option linter.unusedVariables false
set_option linter.unusedSimpArgs false
attribute [local go_sem] Oper.semAt_some
/-! ### lists of numbers, the reference's In and Vars -/
def zs (l : List Int) : List Value := l.map fun x : Int => Value.int .i64 x
theorem zs_length (l : List Int) : (zs l).length = l.length := by simp [zs]
theorem zs_get {l : List Int} {i : Nat} {y : Int} (h : l[i]? = some y) : (zs l)[i]? = some (.int .i64 y) := by simp [zs, h]
theorem zs_ne {l : List Int} {i : Nat} {y : Int} (h : l[i]? = some y) : zs l ≠ [] := by
  intro e
  have := zs_get h
  rw [e] at this
  simp at this
theorem Own.zlen {w : World} {B n c : Nat} {A : Option Addr} {l : List Int} (h : Own 3 w B A n c (zs l)) : l.length = n := by rw [← zs_length]; exact Own.length h
def BigN : Nat := 1000000000000
set_option maxRecDepth 100000 in
set_option maxHeartbeats 2000000 in
theorem In_any {w : World} {A : Option Addr} {n c : Nat} {l : List Int} (hl : l.length = n) (hn : n ≤ BigN) (hr : Rd w w.heap.size A (zs l)) (x : Int) :
    Calls Tryd.prog 24 #[.slice A n c, .int .i64 x] w fun e w' => e = .returned (.bool (decide (x ∈ l))) ∧ w = w' := by
  obtain ⟨R, hR⟩ : ∃ R, decide (x ∈ l) = R := ⟨_, rfl⟩
  rw [hR]
  have HR := Lib.hid (And.intro hl (And.intro hr hR))
  have hnI : (n : Int) ≤ 1000000000000 := by unfold BigN at hn; omega
  clear hl hr hR
  go_enter Tryd.func24, Tryd.ntmps24
  go_upto_region 2 with fail
  go_loopw [5] (fun v5 wr => w = wr ∧ ∃ i : Nat, v5 = .int .i64 (i : Int) ∧ i ≤ n ∧ Hid (decide (x ∈ l.drop i) = R)) (fun v5 _ => ((n : Int) - intOf v5).toNat)
  case atStart => exact ⟨rfl, 0, rfl, Nat.zero_le _, Lib.hid HR.out.2.2⟩
  case round =>
    obtain ⟨rfl, i, rfl, hi, HI⟩ := hrel
    by_cases hlt : i < n
    · have hltI : (i : Int) < (n : Int) := by omega
      have hi0 : (0 : Int) ≤ (i : Int) := by omega
      obtain ⟨y, hy⟩ : ∃ y, l[i]? = some y := ⟨_, List.getElem?_eq_getElem (by rw [HR.out.1]; exact hlt)⟩
      obtain ⟨g, o, rfl, hg, hc⟩ := HR.out.2.1 (zs_ne hy)
      have e0 := hc i _ (zs_get hy)
      have hil : i < l.length := by rw [HR.out.1]; exact hlt
      have hd : l.drop i = y :: l.drop (i + 1) := by rw [List.drop_eq_getElem_cons hil, ← List.getElem?_eq_some_iff.1 hy |>.2]
      by_cases hxy : y = x
      · subst hxy
        have HE := Lib.hid (show true = R from by rw [← HI.out, hd]; simp)
        clear hlt hi hy hc hd hil
        go_wp2
        go_ret
        exact ⟨by rw [← HE.out]; rfl, rfl⟩
      · have hb : (y == x) = false := beq_eq_false_iff_ne.2 hxy
        have HE := Lib.hid (show decide (x ∈ l.drop (i + 1)) = R from by
          rw [← HI.out, hd]
          have : x ≠ y := fun e => hxy e.symm
          simp [this])
        have HLT := Lib.hid hlt
        clear hlt hi hy hc hd hil hxy
        go_wp2
        go_roundw
        case rel => exact ⟨trivial, i + 1, rfl, HLT.out, HE⟩
        case measure =>
          have := HLT.out
          show ((n : Int) - ((i : Int) + 1)).toNat < ((n : Int) - (i : Int)).toNat
          omega
    · have ei : i = n := by omega
      subst ei
      have HE := Lib.hid (show false = R from by rw [← HI.out, List.drop_of_length_le (by rw [HR.out.1]; exact Nat.le_refl _)]; simp)
      clear hlt hi
      go_wp2
      go_ret
      exact ⟨by rw [← HE.out]; rfl, rfl⟩
/-- append of one number; where the new slice lies -/
theorem wpList_append_z {ops : Array Oper} {rest : List Oper} {o : Oper} {a : Act} {Q : Exit → Act → World → Prop} {w : World} (hgd : o.guard = none) (s x : Operand)
    (ho : o.op = .call { callee := .builtin .append, args := #[s, x], argTypes := #[57, 57] })
    (A : Option Addr) (n cp : Nat) (l : List Int) (hs : a.eval s = .slice A n cp) (hown : Own 3 w 0 A n cp (zs l))
    (g : Nat) (y : Int) (hx : a.eval x = .slice (some ⟨g, 0, none⟩) 1 1) (hc : w.cell? ⟨g, 0, none⟩ = some (.int .i64 y)) (hn : n ≤ BigN)
    (h : ∀ A' c' w', Own 3 w' 0 A' (n + 1) c' (zs (l ++ [y])) → w.grownBy w' (Value.slice A n cp).ownBlock → ((Value.slice A' (n + 1) c').ownBlock = (Value.slice A n cp).ownBlock ∨ ∃ q, (Value.slice A' (n + 1) c').ownBlock = some q ∧ w.heap.size ≤ q) → wpList Tryd.prog ops Q rest (a.put o.dst (.slice A' (n + 1) c')) w') : wpList Tryd.prog ops Q (o :: rest) a w := by
  obtain ⟨i0, hi, hz0, hz1, hz2⟩ := info_parts infoI
  unfold BigN at hn
  refine wpList_append_own_at _ hgd s x 57 ho 0 3 i0 (.int .i64 0) 1 8 Tryd.underlying57 hi hz0 hz1 hz2 rfl (by decide) _ n (zs l) hs hown ⟨g, 0, none⟩ 1 1 [.int .i64 y] hx rfl ?_ ?_ (by simp [maxLen]; omega) (by omega) (Nat.zero_le _) ?_
  · intro j u hj
    cases j with
    | zero => simp at hj; subst hj; exact hc
    | succ j => simp at hj
  · intro u hu; simp at hu; subst hu; rfl
  · intro v' w' hown' hg _ hv
    have hf : ∃ A' c', v' = .slice A' (n + 1) c' := by
      rcases hown'.2 with ⟨h1, h2⟩ | ⟨g', cap, cur, h1, _⟩
      · exact absurd h2 (by simp)
      · exact ⟨_, _, h1⟩
    obtain ⟨A', c', rfl⟩ := hf
    refine h A' c' w' (by have h3 := hown'; rw [show zs l ++ [Value.int .i64 y] = zs (l ++ [y]) by simp [zs]] at h3; exact h3) hg ?_
    rcases hv with hv | hv
    · exact .inl hv
    · exact .inr ⟨_, hv, Nat.le_refl _⟩
theorem own_kept {w w' : World} {A : Option Addr} {n c : Nat} {xs : List Value} (h : Own 3 w 0 A n c xs) (hb : Below w.heap.size w w') : Own 3 w' 0 A n c xs := Own.below h hb (Nat.le_refl _)
theorem own_lt {w : World} {A : Option Addr} {n c : Nat} {xs : List Value} (h : Own 3 w 0 A n c xs) : ∀ g, (Value.slice A n c).ownBlock = some g → g < w.heap.size := by
  intro g hg
  rcases Own.form h with ⟨rfl, _⟩ | ⟨g', rfl, _, h2⟩
  · simp [Value.ownBlock] at hg
  · have e : (Value.slice (some ⟨g', 0, none⟩) n c).ownBlock = some g' := rfl
    rw [e] at hg
    injection hg with hg
    omega
/-- the own block is where it was, or new -/
def Mov (w : World) (r r' : Option Nat) : Prop := r' = r ∨ ∃ g, r' = some g ∧ w.heap.size ≤ g
theorem Mov.trans {w w1 : World} {r r1 r2 : Option Nat} (h : Mov w r r1) (h2 : Mov w1 r1 r2) (hs : w.heap.size ≤ w1.heap.size) : Mov w r r2 := by
  rcases h2 with h2 | ⟨g, h2, h3⟩
  · rw [h2]; exact h
  · exact .inr ⟨g, h2, Nat.le_trans hs h3⟩
theorem gb_mov {w w1 w2 : World} {r r1 : Option Nat} (h : w.grownBy w1 r) (hm : Mov w r r1) (h2 : w1.grownBy w2 r1) : w.grownBy w2 r :=
  ⟨h2.os.trans h.os, h2.tape.trans h.tape, h2.output.trans h.output, Nat.le_trans h.size h2.size, fun j hj hne => (h2.block j (Nat.lt_of_lt_of_le hj h.size) (fun e => by
    rcases hm with hm | ⟨g, hm, hg⟩
    · rw [hm] at e; exact hne e
    · rw [hm] at e; injection e with e; omega)).trans (h.block j hj hne)⟩
def VarsOk (t : Tm) : Prop := ∀ (w : World) (sl : Value) (A : Option Addr) (n c : Nat) (out : List Int), TAtP w (fun b => b < w.heap.size ∧ (Value.slice A n c).ownBlock ≠ some b) t sl → Own 3 w 0 A n c (zs out) → out.length + sz t ≤ BigN →
  Calls Tryd.prog 23 #[valT t sl, .slice A n c] w fun e w' => ∃ A' n' c', e = .returned (.slice A' n' c') ∧ Own 3 w' 0 A' n' c' (zs (vars t out)) ∧ w.grownBy w' (Value.slice A n c).ownBlock ∧ Mov w (Value.slice A n c).ownBlock (Value.slice A' n' c').ownBlock
theorem szs_drop {ts : List Tm} {i : Nat} {a : Tm} (h : ts[i]? = some a) : szs (ts.drop i) = sz a + szs (ts.drop (i + 1)) := by
  obtain ⟨hil, e⟩ := List.getElem?_eq_some_iff.1 h
  rw [List.drop_eq_getElem_cons hil, e, szs]
set_option maxRecDepth 100000 in
set_option maxHeartbeats 8000000 in
theorem Vars_any (t : Tm) : VarsOk t := by
  refine Tm.ind (p := VarsOk) (fun k nl ml b v ts ih => ?_) t
  intro w sl A0 n0 c0 out h hown hsz
  obtain ⟨nb, hnb⟩ : ∃ nb : ByteArray, (⟨nl.toArray⟩ : ByteArray) = nb := ⟨_, rfl⟩
  obtain ⟨mb, hmb⟩ : ∃ mb : ByteArray, (⟨ml.toArray⟩ : ByteArray) = mb := ⟨_, rfl⟩
  obtain ⟨A, c, rfl, hl1, hl2, hl3, _, _⟩ := TAtP.iff.1 h
  obtain ⟨L, hL⟩ : ∃ L, ts.length = L := ⟨_, rfl⟩
  change ts.length ≤ c at hl1
  change ts.length ≤ maxArgs at hl3
  change TAtP w _ (.mk k nl ml b v ts) (.slice A ts.length c) at h
  change Calls Tryd.prog _ #[valT _ (.slice A ts.length c), _] w _
  rw [valT_mk hnb hmb]
  rw [hL] at h hl1 hl3 ⊢
  obtain ⟨R, hR⟩ : ∃ R, vars (.mk k nl ml b v ts) out = R := ⟨_, rfl⟩
  rw [hR]
  obtain ⟨r0, hr0⟩ : ∃ r0, (Value.slice A0 n0 c0).ownBlock = r0 := ⟨_, rfl⟩
  rw [hr0] at h ⊢
  have hRs : varss ts (if k = 1 ∧ v ∉ out then out ++ [v] else out) = R := by rw [← hR]; rfl
  have hol := Own.zlen hown
  have hszs : out.length + szs ts + 1 ≤ BigN := by simp only [sz] at hsz; omega
  have hLI : (L : Int) ≤ 1759218604400 := by unfold maxArgs at hl3; omega
  obtain ⟨W1, hW1⟩ : ∃ W1, w.alloc (.cells #[.int .i64 k, .string nb, .string mb, .int .u64 b, .int .i64 v, .slice A L c] 25) = W1 := ⟨_, rfl⟩
  have hb1 : Below w.heap.size w W1 := by rw [← hW1]; exact (Below.refl _ _).alloc (Nat.le_refl _) _
  have hX : TBox W1 w.heap.size (.mk k nl ml b v ts) (.slice A L c) := by rw [← hW1]; exact TBox.new w hnb hmb
  obtain ⟨x0, x1, x2, x3, x4, x5⟩ := hX.cells hnb hmb
  have hrlt : ∀ g, r0 = some g → g < w.heap.size := fun g e => own_lt hown g (hr0.trans e)
  have HIH := Lib.hid ih
  have HL := Lib.hid hL
  have HM := Lib.hid (And.intro hnb hmb)
  have HT := Lib.hid h
  have HB1 := Lib.hid (And.intro hb1 (And.intro hX hrlt))
  have HO := Lib.hid (And.intro (own_kept hown hb1) (And.intro hol hr0))
  have HR := Lib.hid (And.intro hRs hszs)
  have hnI : (n0 : Int) ≤ 1000000000000 := by unfold BigN at hszs; omega
  have HWe := Lib.hid hW1
  clear ih h hown hsz hR hRs hszs hol hnb hmb hL hb1 hX hrlt hr0 hW1
  rw [← HWe.out] at x0 x1 x2 x3 x4 x5
  go_enter Tryd.func23, Tryd.ntmps23
  obtain ⟨G, hG⟩ : ∃ G, w.heap.size = G := ⟨_, rfl⟩
  have HG := Lib.hid hG
  -- the list behind the node itself
  have mid : ∃ out1, (if k = 1 ∧ v ∉ out then out ++ [v] else out) = out1 ∧ out1.length ≤ out.length + 1 := ⟨_, rfl, by split <;> simp⟩
  obtain ⟨out1, hout1, hlen1⟩ := mid
  have HR1 := Lib.hid (show varss ts out1 = R ∧ out1.length + szs ts ≤ BigN from ⟨by rw [← hout1]; exact HR.out.1, by have := HR.out.2; omega⟩)
  have HOu := Lib.hid hout1
  clear hout1 hlen1 hG
  have HIn := Lib.hid (show Calls Tryd.prog 24 #[.slice A0 n0 c0, .int .i64 v] W1 (fun e w' => e = .returned (.bool (decide (v ∈ out))) ∧ W1 = w') from In_any (w := W1) (c := c0) HO.out.2.1 (by have := HO.out.2.1; unfold BigN; omega) (Own.rd HO.out.1) v)
  rw [← HWe.out] at HIn
  have h3 : (k == 1) = false ∨ ((k == 1) = true ∧ decide (v ∈ out) = true) ∨ ((k == 1) = true ∧ decide (v ∈ out) = false) := by
    cases h1 : (k == 1)
    · exact .inl rfl
    · cases h2 : decide (v ∈ out)
      · exact .inr (.inr ⟨rfl, rfl⟩)
      · exact .inr (.inl ⟨rfl, rfl⟩)
  rcases h3 with s0 | ⟨s0, h2⟩ | ⟨s0, h2⟩
  focus
    have HE := Lib.hid (show out1 = out from by
      rw [← HOu.out, if_neg (fun h => by rw [h.1] at s0; simp at s0)])
    go_upto_region 6 with fail
    rw [HWe.out]
    have HV := Lib.hid (show Own 3 W1 0 A0 n0 c0 (zs out1) ∧ W1.grownBy W1 r0 ∧ Mov W1 r0 (Value.slice A0 n0 c0).ownBlock from ⟨by rw [HE.out]; exact HO.out.1, gb_refl _ _, .inl HO.out.2.2⟩)
  rotate_left
  focus
    rw [h2] at HIn
    have HE := Lib.hid (show out1 = out from by
      rw [← HOu.out, if_neg (fun h => h.2 (of_decide_eq_true h2))])
    clear h2
    go_upto_region 6 with (go_at_call 24; (with_reducible refine HIn.out.mono ?_); rintro e w' ⟨rfl, rfl⟩)
    rw [HWe.out]
    have HV := Lib.hid (show Own 3 W1 0 A0 n0 c0 (zs out1) ∧ W1.grownBy W1 r0 ∧ Mov W1 r0 (Value.slice A0 n0 c0).ownBlock from ⟨by rw [HE.out]; exact HO.out.1, gb_refl _ _, .inl HO.out.2.2⟩)
  rotate_left
  focus
    rw [h2] at HIn
    have HE := Lib.hid (show out1 = out ++ [v] from by
      rw [← HOu.out, if_pos ⟨by simpa using s0, of_decide_eq_false h2⟩])
    clear h2
    have hb2 : Below W1.heap.size W1 (W1.alloc (.cells #[.int .i64 v] 3)) := (Below.refl _ _).alloc (Nat.le_refl _) _
    have HB2 := Lib.hid (show Own 3 (W1.alloc (.cells #[.int .i64 v] 3)) 0 A0 n0 c0 (zs out) ∧ (W1.alloc (.cells #[.int .i64 v] 3)).cell? ⟨W1.heap.size, 0, none⟩ = some (.int .i64 v) ∧ W1.grownBy (W1.alloc (.cells #[.int .i64 v] 3)) r0 from
      ⟨own_kept HO.out.1 hb2, cell_of_one (heap_alloc_new W1 _), grown_below hb2⟩)
    have hs1 : W1.heap.size = w.heap.size + 1 := by rw [← HWe.out]; simp
    have HS1 := Lib.hid hs1
    rw [← HWe.out] at HB2
    clear hb2 hs1
    go_upto_region 6 with (first
      | (go_at_call 24; (with_reducible refine HIn.out.mono ?_); rintro e w' ⟨rfl, rfl⟩)
      | (at_builtin; refine wpList_append_z rfl _ _ rfl A0 n0 c0 out rfl HB2.out.1 (w.heap.size + 1) v rfl (by have h9 := HB2.out.2.1; rw [HWe.out] at h9 ⊢; rw [HS1.out] at h9; exact h9) (by have := HO.out.2.1; have := HR.out.2; unfold BigN at *; omega) ?_; intro A5 c5 w5 ho5 hg5 hm5; have HV := Lib.hid (show Own 3 w5 0 A5 (n0 + 1) c5 (zs out1) ∧ W1.grownBy w5 r0 ∧ Mov W1 r0 (Value.slice A5 (n0 + 1) c5).ownBlock from ⟨by rw [HE.out]; exact ho5, by rw [HO.out.2.2] at hg5; rw [← HWe.out]; exact grown_trans HB2.out.2.2 hg5, by rw [HO.out.2.2] at hm5; rcases hm5 with hm5 | ⟨q, hm5, hq⟩; exact .inl hm5; exact .inr ⟨q, hm5, by rw [← HWe.out]; exact Nat.le_trans HB2.out.2.2.size hq⟩⟩); obtain ⟨y0, y1, y2, y3, y4, y5⟩ := (show TBox w5 w.heap.size (.mk k nl ml b v ts) (.slice A L c) from (HV.out.2.1.block _ HB1.out.2.1.lt (fun e => by have := HB1.out.2.2 _ e.symm; omega)).trans HB1.out.2.1).cells HM.out.1 HM.out.2; clear ho5 hg5 hm5))
  rotate_left
  all_goals
    clear x0 x1 x2 x3 x4 x5 HIn
    go_loopw [1, 6] (fun v1 v6 wr => ∃ A2 n2 c2 i out2, v1 = .slice A2 n2 c2 ∧ v6 = .int .i64 ((i : Nat) : Int) ∧ i ≤ L ∧ Hid (Own 3 wr 0 A2 n2 c2 (zs out2) ∧ W1.grownBy wr r0 ∧ Mov W1 r0 (Value.slice A2 n2 c2).ownBlock ∧ varss (ts.drop i) out2 = R ∧ out2.length + szs (ts.drop i) ≤ BigN)) (fun _ v6 _ => ((L : Int) - intOf v6).toNat)
    case atStart => exact ⟨_, _, _, 0, out1, rfl, rfl, Nat.zero_le _, Lib.hid ⟨HV.out.1, HV.out.2.1, HV.out.2.2, HR1.out.1, HR1.out.2⟩⟩
    case round =>
      obtain ⟨A2, n2, c2, i, out2, rfl, rfl, hi, HI⟩ := hrel
      have hXr : TBox wr w.heap.size (.mk k nl ml b v ts) (.slice A L c) := (HI.out.2.1.block _ HB1.out.2.1.lt (fun e => by have := HB1.out.2.2 _ e.symm; omega)).trans HB1.out.2.1
      obtain ⟨x0, x1, x2, x3, x4, x5⟩ := hXr.cells HM.out.1 HM.out.2
      clear hXr
      by_cases hlt : i < L
      · have hltI : (i : Int) < (L : Int) := by omega
        have hi0 : (0 : Int) ≤ (i : Int) := by omega
        have hil : i < ts.length := by rw [HL.out]; exact hlt
        obtain ⟨a, ha⟩ : ∃ a, ts[i]? = some a := ⟨_, List.getElem?_eq_getElem hil⟩
        have hTr : TAtP wr (fun b => b < w.heap.size ∧ r0 ≠ some b) (.mk k nl ml b v ts) (.slice A L c) := TAtP.keep _ HT.out (fun b hb => ⟨hb, (HI.out.2.1.block b (Nat.lt_of_lt_of_le hb.1 HB1.out.1.size) (fun e => hb.2 e.symm)).trans (HB1.out.1.block b hb.1)⟩)
        obtain ⟨A', c', h1, _, _, _, _, hgo⟩ := TAtP.iff.1 hTr
        obtain ⟨g, o, hA, hPg, hel⟩ := hgo (fun e => by change ts = [] at e; rw [e] at ha; simp at ha)
        injection h1 with e1 e2 e3
        rw [hA] at e1
        subst e1
        clear e2 e3
        obtain ⟨A4, c4, k4, n4, m4, b4, v4, ts4, nb4, mb4, rfl, hnb4, hmb4, hta, q0, q1, q2, q3, q4, q5⟩ := EltP.cells (hel i a ha)
        obtain ⟨L4, hL4⟩ : ∃ q, ts4.length = q := ⟨_, rfl⟩
        rw [hL4] at q5 hta
        have HD := Lib.hid (show ts.drop i = .mk k4 n4 m4 b4 v4 ts4 :: ts.drop (i + 1) ∧ szs (ts.drop i) = sz (.mk k4 n4 m4 b4 v4 ts4) + szs (ts.drop (i + 1)) from ⟨by rw [List.drop_eq_getElem_cons hil, ← List.getElem?_eq_some_iff.1 ha |>.2], szs_drop ha⟩)
        have HCl := Lib.hid (HIH.out _ (List.mem_of_getElem? ha) wr _ A2 n2 c2 out2 (hta.wide (fun b hb => ⟨Nat.lt_of_lt_of_le hb.1 (Nat.le_trans HB1.out.1.size HI.out.2.1.size), fun e => by
          rcases HI.out.2.2.1 with hm | ⟨q, hm, hq⟩
          · rw [hm] at e; exact hb.2 e
          · rw [hm] at e; injection e with e; have := HB1.out.1.size; have := hb.1; omega⟩)) HI.out.1 (by have h8 := HI.out.2.2.2.2; rw [HD.out.2] at h8; omega))
        rw [valT_mk hnb4 hmb4] at HCl
        have HLT := Lib.hid hlt
        have hn2 := Own.zlen HI.out.1
        clear hlt hi hil ha hTr hgo hPg hel hta hnb4 hmb4 hL4 hn2
        go_wp2_with (go_at_call 23; (with_reducible refine HCl.out.mono ?_); rintro e w6 ⟨A6, n6, c6, rfl, ho6, hg6, hm6⟩; have H6 := Lib.hid (And.intro ho6 (And.intro hg6 hm6)); clear ho6 hg6 hm6)
        go_roundw
        case rel =>
          refine ⟨A6, n6, c6, i + 1, _, rfl, rfl, HLT.out, Lib.hid ⟨H6.out.1, gb_mov HI.out.2.1 HI.out.2.2.1 H6.out.2.1, HI.out.2.2.1.trans H6.out.2.2 HI.out.2.1.size, ?_, ?_⟩⟩
          · have h8 := HI.out.2.2.2.1
            rw [HD.out.1, varss] at h8
            exact h8
          · have h8 := HI.out.2.2.2.2
            rw [HD.out.2] at h8
            have := vars_len (.mk k4 n4 m4 b4 v4 ts4) out2
            omega
        case measure =>
          have := HLT.out
          show ((L : Int) - ((i : Int) + 1)).toNat < ((L : Int) - (i : Int)).toNat
          omega
      · have ei : i = L := by omega
        subst ei
        have HE9 := Lib.hid (show out2 = R from by
          have h8 := HI.out.2.2.2.1
          rw [List.drop_of_length_le (by rw [HL.out]; exact Nat.le_refl _), varss] at h8
          exact h8)
        clear hlt hi
        go_wp2
        go_ret
        refine ⟨A2, n2, c2, rfl, by rw [← HE9.out]; exact HI.out.1, grown_trans (grown_below HB1.out.1) HI.out.2.1, ?_⟩
        rcases HI.out.2.2.1 with hm | ⟨q, hm, hq⟩
        · exact .inl hm
        · exact .inr ⟨q, hm, Nat.le_trans HB1.out.1.size hq⟩
/-! ### Above, the law's high -/
set_option maxRecDepth 100000 in
set_option maxHeartbeats 4000000 in
theorem Above_any {w : World} {t : Tm} {sl : Value} (h : TAt w w.heap.size t sl) (hsz : sz t ≤ 100000) (hv : ∀ x ∈ vars t [], 0 ≤ x ∧ x ≤ 4611686018427396000) : Calls Tryd.prog 20 #[valT t sl] w fun e w' => e = .returned (.int .i64 (above t)) ∧ Below w.heap.size w w' := by
  obtain ⟨k, nl, ml, b, v, ts, nb, mb, A, c, hT, rfl, hnb, hmb, hl1, hl2, hl3, hvv, hs1, hs2⟩ := h.letters
  rw [hvv]
  obtain ⟨L, hL⟩ : ∃ L, ts.length = L := ⟨_, rfl⟩
  rw [hL] at h hvv ⊢
  obtain ⟨R, hR⟩ : ∃ R, above t = R := ⟨_, rfl⟩
  rw [hR]
  unfold above at hR
  obtain ⟨W1, hW1⟩ : ∃ W1, w.alloc (.cells #[.int .i64 k, .string nb, .string mb, .int .u64 b, .int .i64 v, .slice A L c] 25) = W1 := ⟨_, rfl⟩
  have hb1 : Below w.heap.size w W1 := by rw [← hW1]; exact (Below.refl _ _).alloc (Nat.le_refl _) _
  have hX : TBox W1 w.heap.size (.mk k nl ml b v ts) (.slice A L c) := by rw [← hW1]; exact TBox.new w hnb hmb
  obtain ⟨x0, x1, x2, x3, x4, x5⟩ := hX.cells hnb hmb
  have hVs := Vars_any t W1 (.slice A L c) none 0 0 [] ((h.to hb1 hb1.size).wide (fun b hb => ⟨hb, by simp [Value.ownBlock]⟩)) ⟨rfl, .inl ⟨rfl, rfl⟩⟩ (by unfold BigN; simp; omega)
  rw [hvv] at hVs
  have HV := Lib.hid hVs
  have hll := vars_len t []
  obtain ⟨l, hl⟩ : ∃ l, vars t [] = l := ⟨_, rfl⟩
  rw [hl] at HV hR hv hll
  have HR := Lib.hid (And.intro hR (And.intro hv (show l.length ≤ 100000 by simp at hll; omega)))
  have HB := Lib.hid hb1
  subst hW1
  clear h hvv hb1 hX hVs hl hR hv hT hnb hmb hll hL
  go_enter Tryd.func20, Tryd.ntmps20
  go_upto_region 4 with (go_at_call 23; (with_reducible refine HV.out.mono ?_); rintro e w2 ⟨A2, n2, c2, rfl, ho2, hg2, hm2⟩; have H2 := Lib.hid (And.intro ho2 (HB.out.trans (show Below w.heap.size _ w2 from ⟨hg2.os, hg2.tape, hg2.output, hg2.size, fun j hj => hg2.block j (Nat.lt_of_lt_of_le hj HB.out.size) (by simp [Value.ownBlock])⟩))); clear ho2 hg2 hm2)
  have hn2 : l.length = n2 := Own.zlen H2.out.1
  have HN2 := Lib.hid hn2
  have hnI : (n2 : Int) ≤ 100000 := by have := HR.out.2.2; omega
  clear x0 x1 x2 x3 x4 x5 hn2
  go_loopw [3, 5] (fun v3 v5 wr => w2 = wr ∧ ∃ (i : Nat) (m : Int), v3 = .int .i64 m ∧ v5 = .int .i64 (i : Int) ∧ i ≤ n2 ∧ 0 ≤ m ∧ m ≤ 4611686018427396001 ∧ Hid ((l.drop i).foldl (fun n x => max n (x + 1)) m = R)) (fun _ v5 _ => ((n2 : Int) - intOf v5).toNat)
  case atStart => exact ⟨rfl, 0, 0, rfl, rfl, Nat.zero_le _, by omega, by omega, Lib.hid HR.out.1⟩
  case round =>
    obtain ⟨rfl, i, m, rfl, rfl, hi, hm0, hm1, HI⟩ := hrel
    by_cases hlt : i < n2
    · have hltI : (i : Int) < (n2 : Int) := by omega
      have hi0 : (0 : Int) ≤ (i : Int) := by omega
      have hil : i < l.length := by rw [HN2.out]; exact hlt
      obtain ⟨y, hy⟩ : ∃ y, l[i]? = some y := ⟨_, List.getElem?_eq_getElem hil⟩
      obtain ⟨g, o, rfl, hg, hc⟩ := (Own.rd H2.out.1) (zs_ne hy)
      have e0 := hc i _ (zs_get hy)
      obtain ⟨hy0, hy1⟩ := HR.out.2.1 y (List.mem_of_getElem? hy)
      have hd : l.drop i = y :: l.drop (i + 1) := by rw [List.drop_eq_getElem_cons hil, ← List.getElem?_eq_some_iff.1 hy |>.2]
      have HE := Lib.hid (show (l.drop (i + 1)).foldl (fun n x => max n (x + 1)) (max m (y + 1)) = R from by rw [← HI.out, hd]; rfl)
      have HLT := Lib.hid hlt
      clear hlt hi hil hy hc hd HI
      go_wp2
      refine ⟨⟨trivial, i + 1, max m (y + 1), rfl, rfl, HLT.out, by omega, by omega, HE⟩, ?_⟩
      have := HLT.out
      show ((n2 : Int) - ((i : Int) + 1)).toNat < ((n2 : Int) - (i : Int)).toNat
      omega
    · have ei : i = n2 := by omega
      subst ei
      have HE := Lib.hid (show m = R from by
        have h8 := HI.out
        rw [List.drop_of_length_le (by rw [HN2.out]; exact Nat.le_refl _)] at h8
        exact h8)
      clear hlt hi
      go_wp2
      go_ret
      exact ⟨by rw [← HE.out]; rfl, H2.out.2⟩
def highB (t : Tm) : Bool := (vars t []).any (fun x => decide (4611686018427387904 < x))
set_option maxRecDepth 100000 in
set_option maxHeartbeats 4000000 in
theorem high_any {w : World} {t : Tm} {sl : Value} (h : TAt w w.heap.size t sl) (hsz : sz t ≤ 100000) : Calls Tryd.prog 11 #[valT t sl] w fun e w' => e = .returned (.bool (highB t)) ∧ Below w.heap.size w w' := by
  obtain ⟨k, nl, ml, b, v, ts, nb, mb, A, c, hT, rfl, hnb, hmb, hl1, hl2, hl3, hvv, hs1, hs2⟩ := h.letters
  rw [hvv]
  obtain ⟨L, hL⟩ : ∃ L, ts.length = L := ⟨_, rfl⟩
  rw [hL] at h hvv ⊢
  obtain ⟨R, hR⟩ : ∃ R, highB t = R := ⟨_, rfl⟩
  rw [hR]
  unfold highB at hR
  obtain ⟨W1, hW1⟩ : ∃ W1, w.alloc (.cells #[.int .i64 k, .string nb, .string mb, .int .u64 b, .int .i64 v, .slice A L c] 25) = W1 := ⟨_, rfl⟩
  have hb1 : Below w.heap.size w W1 := by rw [← hW1]; exact (Below.refl _ _).alloc (Nat.le_refl _) _
  have hX : TBox W1 w.heap.size (.mk k nl ml b v ts) (.slice A L c) := by rw [← hW1]; exact TBox.new w hnb hmb
  obtain ⟨x0, x1, x2, x3, x4, x5⟩ := hX.cells hnb hmb
  have hVs := Vars_any t W1 (.slice A L c) none 0 0 [] ((h.to hb1 hb1.size).wide (fun b hb => ⟨hb, by simp [Value.ownBlock]⟩)) ⟨rfl, .inl ⟨rfl, rfl⟩⟩ (by unfold BigN; simp; omega)
  rw [hvv] at hVs
  have HV := Lib.hid hVs
  have hll := vars_len t []
  obtain ⟨l, hl⟩ : ∃ l, vars t [] = l := ⟨_, rfl⟩
  rw [hl] at HV hR hll
  have HR := Lib.hid (And.intro hR (And.intro trivial (show l.length ≤ 100000 by simp at hll; omega)))
  have HB := Lib.hid hb1
  subst hW1
  clear h hvv hb1 hX hVs hl hR hT hnb hmb hll hL
  go_enter Tryd.func11, Tryd.ntmps11
  go_upto_region 3 with (go_at_call 23; (with_reducible refine HV.out.mono ?_); rintro e w2 ⟨A2, n2, c2, rfl, ho2, hg2, hm2⟩; have H2 := Lib.hid (And.intro ho2 (HB.out.trans (show Below w.heap.size _ w2 from ⟨hg2.os, hg2.tape, hg2.output, hg2.size, fun j hj => hg2.block j (Nat.lt_of_lt_of_le hj HB.out.size) (by simp [Value.ownBlock])⟩))); clear ho2 hg2 hm2)
  have hn2 : l.length = n2 := Own.zlen H2.out.1
  have HN2 := Lib.hid hn2
  have hnI : (n2 : Int) ≤ 100000 := by have := HR.out.2.2; omega
  clear x0 x1 x2 x3 x4 x5 hn2
  go_loopw [4] (fun v4 wr => w2 = wr ∧ ∃ (i : Nat), v4 = .int .i64 (i : Int) ∧ i ≤ n2 ∧ Hid ((l.drop i).any (fun x => decide (4611686018427387904 < x)) = R)) (fun v4 _ => ((n2 : Int) - intOf v4).toNat)
  case atStart => exact ⟨rfl, 0, rfl, Nat.zero_le _, Lib.hid HR.out.1⟩
  case round =>
    obtain ⟨rfl, i, rfl, hi, HI⟩ := hrel
    by_cases hlt : i < n2
    · have hltI : (i : Int) < (n2 : Int) := by omega
      have hi0 : (0 : Int) ≤ (i : Int) := by omega
      have hil : i < l.length := by rw [HN2.out]; exact hlt
      obtain ⟨y, hy⟩ : ∃ y, l[i]? = some y := ⟨_, List.getElem?_eq_getElem hil⟩
      obtain ⟨g, o, rfl, hg, hc⟩ := (Own.rd H2.out.1) (zs_ne hy)
      have e0 := hc i _ (zs_get hy)
      have hd : l.drop i = y :: l.drop (i + 1) := by rw [List.drop_eq_getElem_cons hil, ← List.getElem?_eq_some_iff.1 hy |>.2]
      have HLT := Lib.hid hlt
      by_cases hby : 4611686018427387904 < y
      · have HE := Lib.hid (show true = R from by rw [← HI.out, hd, List.any_cons, decide_eq_true hby]; rfl)
        clear hlt hi hil hy hc hd HI
        go_wp2
        go_ret
        exact ⟨by rw [← HE.out]; rfl, H2.out.2⟩
      · have HE := Lib.hid (show (l.drop (i + 1)).any (fun x => decide (4611686018427387904 < x)) = R from by rw [← HI.out, hd, List.any_cons, decide_eq_false hby]; rfl)
        clear hlt hi hil hy hc hd HI
        go_wp2
        refine ⟨⟨trivial, i + 1, rfl, HLT.out, HE⟩, ?_⟩
        have := HLT.out
        show ((n2 : Int) - ((i : Int) + 1)).toNat < ((n2 : Int) - (i : Int)).toNat
        omega
    · have ei : i = n2 := by omega
      subst ei
      have HE := Lib.hid (show false = R from by
        have h8 := HI.out
        rw [List.drop_of_length_le (by rw [HN2.out]; exact Nat.le_refl _)] at h8
        exact h8)
      clear hlt hi
      go_wp2
      go_ret
      exact ⟨by rw [← HE.out]; rfl, H2.out.2⟩
end Go.Proofs.YtgfeainpeplphaaDoor
