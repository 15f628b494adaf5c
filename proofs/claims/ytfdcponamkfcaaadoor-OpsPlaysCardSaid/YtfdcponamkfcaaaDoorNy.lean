import Derived.Maps.AppendAt
import Derived.OwnWalk
import Derived.Test.YtfdcponamkfcaaaDoorNx
namespace Go.Proofs.YtfdcponamkfcaaaDoor
open Go.RowKit Ho Go.Maps Go.Shelf Go.Sort Hb
set_option linter.unusedVariables false
set_option linter.unusedSimpArgs false
/-! ### append of operators -/
theorem wpList_append_ops {ops : Array Oper} {rest : List Oper} {o : Oper} {a : Act} {Q : Exit → Act → World → Prop} {w : World} (hgd : o.guard = none) (s x : Operand)
    (ho : o.op = .call { callee := .builtin .append, args := #[s, x], argTypes := #[30, 30] })
    (base : Nat) (A : Option Addr) (n c : Nat) (xs : List OpV) (hs : a.eval s = .slice A n c) (hown : w.ownsRow base 23 3 (.slice A n c) n (flO xs))
    (ad : Addr) (m c2 : Nat) (ys : List OpV) (hx : a.eval x = .slice (some ad) m c2) (hl : ys.length = m) (hnews : ∀ j u, (flO ys)[j]? = some u → w.cell? (ad.add j) = some u)
    (b2 : (n + m) * 32 ≤ 140737488355328) (hb : base ≤ w.heap.size)
    (h : ∀ A' c' w', w'.ownsRow base 23 3 (.slice A' (n + m) c') (n + m) (flO (xs ++ ys)) → Below base w w' → w.grownBy w' (Value.slice A n c).ownBlock → wpList Tryd.prog ops Q rest (a.put o.dst (.slice A' (n + m) c')) w') :
    wpList Tryd.prog ops Q (o :: rest) a w := by
  obtain ⟨i0, hi, hz0, hz1, hz2⟩ := info_parts infoO
  refine wpList_append_own_at _ hgd s x 30 ho base 23 i0 (.agg #[.string ⟨#[]⟩, .int .i64 0, .int .i64 0]) 3 32 Tryd.underlying30 hi hz0 hz1 hz2 rfl (by decide) _ n (flO xs) hs hown ad m c2 (flO ys) hx (by rw [flO_length, hl]) hnews ?_ (by unfold maxLen; omega) b2 hb ?_
  · intro u hu
    obtain ⟨y, _, hy⟩ := List.mem_flatMap.1 hu
    unfold encO at hy
    simp at hy
    rcases hy with rfl | rfl | rfl <;> rfl
  · intro v' w' ho' hg _ _
    have e : flO xs ++ flO ys = flO (xs ++ ys) := by simp [flO]
    rw [e] at ho'
    have hf : ∃ A' c', v' = .slice A' (n + m) c' := by
      rcases ho'.2 with ⟨h1, h2⟩ | ⟨g', cap, cur, h1, _⟩
      · exact ⟨none, 0, by rw [h1, h2]⟩
      · exact ⟨_, cap, h1⟩
    obtain ⟨A', c', rfl⟩ := hf
    refine h A' c' w' ho' ⟨hg.os, hg.tape, hg.output, hg.size, fun j hj => hg.block j (Nat.lt_of_lt_of_le hj hb) (fun e2 => ?_)⟩ hg
    have := (hown.lt j e2.symm).1
    omega
theorem flO_one (y : OpV) : flO [y] = [.string ⟨y.n.toArray⟩, .int .i64 y.t, .int .i64 y.p] := rfl
/-! ### the reference's Add -/
def rAddPost (w : World) (h : Nat) (L' : List OpV) (co : Int) (e : Ending) (w' : World) : Prop := e = .returned (.int .i64 co) ∧ RTab w' h L' ∧ w.grownBy w' (some h)
/-- the codes of Add, by cases -/
theorem code_cases {L : List OpV} {p k : Int} {n : List UInt8} (hc : code L p k n = 0) :
    (n ≠ [124] ∧ p = 0) ∨ (n ≠ [124] ∧ 0 < p ∧ cls k = 1) ∨ (n ≠ [124] ∧ 0 < p ∧ cls k = 2 ∧ (Ho.find L 3 n).isSome = false) ∨ (n ≠ [124] ∧ 0 < p ∧ cls k = 3 ∧ (Ho.find L 2 n).isSome = false) ∨
    (n = [124] ∧ cls k = 2 ∧ p = 0) ∨ (n = [124] ∧ cls k = 2 ∧ 1000 < p ∧ (Ho.find L 3 n).isSome = false) := by
  obtain ⟨h1, h2, h3, h4, h5⟩ := code_zero hc
  have h8 := cls_three k
  have h6 : ¬ (n = [124] ∧ ¬ (cls k = 2 ∧ (p = 0 ∨ 1000 < p))) := by
    intro e
    rw [code, if_neg (by omega), if_neg h3, if_neg h4] at hc
    by_cases h34 : n = [91, 93] ∨ n = [123, 125]
    · rw [if_pos h34] at hc; simp at hc
    · rw [if_neg h34, if_pos e] at hc; simp at hc
  by_cases hn : n = [124]
  · have h7 : cls k = 2 ∧ (p = 0 ∨ 1000 < p) := Classical.byContradiction fun e => h6 ⟨hn, e⟩
    rcases h7.2 with e | e
    · exact .inr (.inr (.inr (.inr (.inl ⟨hn, h7.1, e⟩))))
    · refine .inr (.inr (.inr (.inr (.inr ⟨hn, h7.1, e, ?_⟩))))
      have := (h5 (by omega)).1
      rw [Bool.eq_false_iff]; exact fun f => this ⟨h7.1, f⟩
  · by_cases hp : p = 0
    · exact .inl ⟨hn, hp⟩
    · have hpp : 0 < p := by omega
      have h9 := h5 hpp
      have h123 : cls k = 1 ∨ cls k = 2 ∨ cls k = 3 := by omega
      rcases h123 with e | e | e
      · exact .inr (.inl ⟨hn, hpp, e⟩)
      · exact .inr (.inr (.inl ⟨hn, hpp, e, by rw [Bool.eq_false_iff]; exact fun f => h9.1 ⟨e, f⟩⟩))
      · exact .inr (.inr (.inr (.inl ⟨hn, hpp, e, by rw [Bool.eq_false_iff]; exact fun f => h9.2 ⟨e, f⟩⟩)))
theorem radd_end {w w3 : World} {h K c : Nat} {A : Option Addr} {L' : List OpV} {v : Value} (ho : w3.ownsRow w.heap.size 23 3 (.slice A K c) K (flO L')) (hb : Below w.heap.size w w3) (hh : Boxed w h 77 v) :
    RTab (w3.setCell ⟨h, 0, none⟩ (.slice A K c)) h L' ∧ w.grownBy (w3.setCell ⟨h, 0, none⟩ (.slice A K c)) (some h) := by
  have hK : L'.length = K := by have := ho.1; rw [flO_length] at this; omega
  have hlt := hh.lt
  have hh3 : Boxed w3 h _ _ := (hb.block h hlt).trans hh
  have hg := grownBy_setCell' w3 h (.slice A K c)
  refine ⟨⟨A, c, by rw [hK]; exact hh3.set _, ?_⟩, ?_⟩
  · have h1 := ho.kept hg (by
      rcases ho.2 with ⟨h2, _⟩ | ⟨g, cap, cur, h2, h3, _⟩
      · rw [h2]; exact .inl rfl
      · rw [h2]
        refine .inr fun e => ?_
        have : g = h := Option.some.inj e
        omega)
    rw [hK]
    refine ⟨h1.1, ?_⟩
    rcases h1.2 with h2 | ⟨g, cap, cur, h2, h3, h4⟩
    · exact .inl h2
    · exact .inr ⟨g, cap, cur, h2, Nat.zero_le _, h4⟩
  · exact ⟨hg.os.trans hb.os, hg.tape.trans hb.tape, hg.output.trans hb.output, Nat.le_trans hb.size hg.size, fun j hj hne => (hg.block j (Nat.lt_of_lt_of_le hj hb.size) hne).trans (hb.block j hj)⟩
set_option maxRecDepth 100000 in
set_option maxHeartbeats 8000000 in
theorem radd_any {w : World} {h : Nat} {L : List OpV} (hR : RTab w h L) (hL : L.length ≤ 4398046511101) {p k : Int} {s : ByteArray} :
    Calls Tryd.prog 26 #[.pointer (some ⟨h, 0, none⟩), .int .i64 p, .int .i64 k, .string s] w (rAddPost w h (Ho.add L p k s.data.toList) (code L p k s.data.toList)) := by
  have HRw := Lib.hid (fun w1 (hb : Below w.heap.size w w1) => hR.below hb)
  have hhlt := hR.lt
  have HF := Lib.hid (fun w1 (hb : Below w.heap.size w w1) (c : Nat) => rfind_any (hR.below hb) (by omega) (c := c) (s := s))
  have HC0 := Lib.hid (show Calls Tryd.prog 43 #[.int .i64 k] w (fun e w' => e = .returned (.int .i64 (cls k : Int)) ∧ w = w') from rclass_any k w)
  obtain ⟨r2, hr2⟩ : ∃ r, Ho.find L 2 s.data.toList = r := ⟨_, rfl⟩
  obtain ⟨r3, hr3⟩ : ∃ r, Ho.find L 3 s.data.toList = r := ⟨_, rfl⟩
  have HF2 := Lib.hid (show Calls Tryd.prog 44 #[.pointer (some ⟨h, 0, none⟩), .int .i64 2, .string s] w (FindPost w r2) from by rw [← hr2]; exact HF.out w (Below.refl _ _) 2)
  have HF3 := Lib.hid (fun w1 (hb : Below w.heap.size w w1) => show Calls Tryd.prog 44 #[.pointer (some ⟨h, 0, none⟩), .int .i64 3, .string s] w1 (FindPost w1 r3) from by rw [← hr3]; exact HF.out w1 hb 3)
  have HRR := Lib.hid (And.intro hr2 hr3)
  have HLL := Lib.hid hL
  clear hR hr2 hr3 hL
  obtain ⟨ck, hck⟩ : ∃ ck, cls k = ck := ⟨_, rfl⟩
  have HCK := Lib.hid hck
  rw [hck] at HC0
  clear hck
  go_enter Tryd.func26, Tryd.ntmps26
  go_wp2_with fail
  (with_reducible refine HC0.out.mono ?_)
  rintro ex w0 ⟨rfl, rfl⟩
  go_wp2_with fail
  (with_reducible refine HF2.out.mono ?_)
  rintro ex w1 ⟨rfl, hb1⟩
  obtain ⟨am, at', ap, hX⟩ := opV_parts (r2.getD zeroOp)
  rw [hX]
  clear hX
  obtain ⟨bi, hbi⟩ : ∃ k, r2.isSome = k := ⟨_, rfl⟩
  rw [hbi]
  have HBI := Lib.hid hbi
  have HB1 := Lib.hid (hb1.alloc hb1.size (.cells #[.string am, .int .i64 at', .int .i64 ap] 23))
  clear hb1 hbi
  go_upto_region 3 with fail
  generalize w1.alloc (.cells #[.string am, .int .i64 at', .int .i64 ap] 23) = w2 at *
  go_wp2_with fail
  (with_reducible refine (HF3.out _ HB1.out).mono ?_)
  rintro ex w3 ⟨rfl, hb3⟩
  obtain ⟨bm, bt, bp, hX⟩ := opV_parts (r3.getD zeroOp)
  rw [hX]
  clear hX
  obtain ⟨bo, hbo⟩ : ∃ k, r3.isSome = k := ⟨_, rfl⟩
  rw [hbo]
  have HBO := Lib.hid hbo
  have HB3 := Lib.hid ((HB1.out.trans (hb3.mono HB1.out.size)).alloc (Nat.le_trans HB1.out.size hb3.size) (.cells #[.string bm, .int .i64 bt, .int .i64 bp] 23))
  clear hb3 hbo
  go_upto_region 4 with fail
  generalize w3.alloc (.cells #[.string bm, .int .i64 bt, .int .i64 bp] 23) = w4 at *
  have bad : ∀ co : Int, co ≠ 0 → code L p k s.data.toList = co → rAddPost w h (Ho.add L p k s.data.toList) (code L p k s.data.toList) (.returned (.int .i64 co)) w4 := by
    intro co h0 he
    rw [Ho.add, he, if_neg h0]
    exact ⟨rfl, HRw.out _ HB3.out, HB3.out.os, HB3.out.tape, HB3.out.output, HB3.out.size, fun j hj _ => HB3.out.block j hj⟩
  have HBad := Lib.hid bad
  clear bad
  by_cases hp1 : p < 0
  · have d1 : decide (p < 0) = true := decide_eq_true hp1
    have HE := Lib.hid (HBad.out 40 (by decide) (by rw [code, if_pos (.inl hp1)]))
    clear hp1
    go_wp2
    go_ret
    exact HE.out
  have d1 : decide (p < 0) = false := decide_eq_false hp1
  by_cases hp2 : 1200 < p
  · have d2 : decide (1200 < p) = true := decide_eq_true hp2
    have HE := Lib.hid (HBad.out 40 (by decide) (by rw [code, if_pos (.inr hp2)]))
    clear hp1 hp2
    go_wp2
    go_ret
    exact HE.out
  have d2 : decide (1200 < p) = false := decide_eq_false hp2
  have hpp : ¬ (p < 0 ∨ 1200 < p) := by omega
  by_cases hk : ck = 0
  · have d3 : ((ck : Int) == 0) = true := by rw [hk]; rfl
    have HE := Lib.hid (HBad.out 41 (by decide) (by rw [code, if_neg hpp, if_pos (by rw [HCK.out, hk])]))
    clear hp1 hp2 hpp hk
    go_wp2
    go_ret
    exact HE.out
  have d3 : ((ck : Int) == 0) = false := beq_eq_false_iff_ne.2 (by omega)
  have hk' : ¬ cls k = 0 := by rw [HCK.out]; exact hk
  by_cases h1 : s.data.toList = [44]
  · have s1 : (s.toList == [44]) = true := by rw [str_beq]; exact decide_eq_true h1
    have HE := Lib.hid (HBad.out 42 (by decide) (by rw [code, if_neg hpp, if_neg hk', if_pos h1]))
    clear hp1 hp2 hpp hk hk' h1
    go_wp2
    go_ret
    exact HE.out
  have s1 : (s.toList == [44]) = false := by rw [str_beq]; exact decide_eq_false h1
  by_cases h3 : s.data.toList = [91, 93]
  · have s2 : (s.toList == [91, 93]) = true := by rw [str_beq]; exact decide_eq_true h3
    have HE := Lib.hid (HBad.out 43 (by decide) (by rw [code, if_neg hpp, if_neg hk', if_neg h1, if_pos (.inl h3)]))
    clear hp1 hp2 hpp hk hk' h1 h3
    go_wp2
    go_ret
    exact HE.out
  have s2 : (s.toList == [91, 93]) = false := by rw [str_beq]; exact decide_eq_false h3
  by_cases h4 : s.data.toList = [123, 125]
  · have s3 : (s.toList == [123, 125]) = true := by rw [str_beq]; exact decide_eq_true h4
    have HE := Lib.hid (HBad.out 43 (by decide) (by rw [code, if_neg hpp, if_neg hk', if_neg h1, if_pos (.inr h4)]))
    clear hp1 hp2 hpp hk hk' h1 h3 h4
    go_wp2
    go_ret
    exact HE.out
  have s3 : (s.toList == [123, 125]) = false := by rw [str_beq]; exact decide_eq_false h4
  have h34 : ¬ (s.data.toList = [91, 93] ∨ s.data.toList = [123, 125]) := by rintro (e | e); exact h3 e; exact h4 e
  by_cases hbar : s.data.toList = [124] ∧ ¬ (cls k = 2 ∧ (p = 0 ∨ 1000 < p))
  · have s4 : (s.toList == [124]) = true := by rw [str_beq]; exact decide_eq_true hbar.1
    have HE := Lib.hid (HBad.out 43 (by decide) (by rw [code, if_neg hpp, if_neg hk', if_neg h1, if_neg h34, if_pos hbar]))
    by_cases hc2 : ck = 2
    · have hb2 := hbar.2
      rw [HCK.out] at hb2
      have hpb : 1 ≤ p ∧ p ≤ 1000 := by
        refine Decidable.byContradiction fun e => hb2 ⟨hc2, by omega⟩
      have d5 : decide (1 ≤ p) = true := decide_eq_true hpb.1
      have d6 : decide (p ≤ 1000) = true := decide_eq_true hpb.2
      clear hp1 hp2 hpp hk hk' h1 h3 h4 h34 hbar hb2 hpb
      subst hc2
      go_wp2
      go_ret
      exact HE.out
    · have d4 : ((ck : Int) == 2) = false := beq_eq_false_iff_ne.2 (by omega)
      have d4' : (ck == 2) = false := beq_eq_false_iff_ne.2 hc2
      have d4p : ¬ ((ck : Int) = 2) := by omega
      clear hp1 hp2 hpp hk hk' h1 h3 h4 h34 hbar hc2
      go_wp2
      go_ret
      exact HE.out
  have hcode : code L p k s.data.toList = 0 ∨ code L p k s.data.toList = 43 := by
    rw [code, if_neg hpp, if_neg hk', if_neg h1, if_neg h34, if_neg hbar]
    split
    · exact .inr rfl
    · exact .inl rfl
  rcases hcode with hcode | hcode
  rotate_left
  · -- a clash
    have hcl : 0 < p ∧ ((ck = 2 ∧ bo = true) ∨ (ck = 3 ∧ bi = true)) := by
      rw [code, if_neg hpp, if_neg hk', if_neg h1, if_neg h34, if_neg hbar] at hcode
      by_cases hx : 0 < p ∧ ((cls k = 2 ∧ (Ho.find L 3 s.data.toList).isSome) ∨ (cls k = 3 ∧ (Ho.find L 2 s.data.toList).isSome))
      · rw [HRR.out.1, HRR.out.2, HBI.out, HBO.out, HCK.out] at hx
        exact hx
      · rw [if_neg hx] at hcode; simp at hcode
    have HE := Lib.hid (HBad.out 43 (by decide) hcode)
    have dp : decide (0 < p) = true := decide_eq_true hcl.1
    have d5 : decide (1 ≤ p) = true := decide_eq_true (by omega)
    by_cases hn : s.data.toList = [124]
    · have s4 : (s.toList == [124]) = true := by rw [str_beq]; exact decide_eq_true hn
      have h9 : cls k = 2 ∧ (p = 0 ∨ 1000 < p) := Classical.byContradiction fun e => hbar ⟨hn, e⟩
      have hc2 : ck = 2 := by rw [← HCK.out]; exact h9.1
      have d6 : decide (p ≤ 1000) = false := decide_eq_false (by omega)
      have hbo : bo = true := by rcases hcl.2 with e | e; exact e.2; omega
      subst hbo
      clear hp1 hp2 hpp hk hk' h1 h3 h4 h34 hbar hcode hcl hn h9
      subst hc2
      go_wp2
      go_ret
      exact HE.out
    · have s4 : (s.toList == [124]) = false := by rw [str_beq]; exact decide_eq_false hn
      rcases hcl.2 with ⟨e1, e2⟩ | ⟨e1, e2⟩
      · subst e2
        clear hp1 hp2 hpp hk hk' h1 h3 h4 h34 hbar hcode hcl hn
        subst e1
        go_wp2
        go_ret
        exact HE.out
      · subst e2
        clear hp1 hp2 hpp hk hk' h1 h3 h4 h34 hbar hcode hcl hn
        subst e1
        go_wp2
        go_ret
        exact HE.out
  have HCo := Lib.hid hcode
  have HPp := Lib.hid hpp
  rcases code_cases hcode with ⟨hn, h9⟩ | ⟨hn, h9, hc9⟩ | ⟨hn, h9, hc9, hf9⟩ | ⟨hn, h9, hc9, hf9⟩ | ⟨hn, hc9, h9⟩ | ⟨hn, hc9, h9, hf9⟩
  all_goals first
    | (have s4 : (s.toList == [124]) = false := by rw [str_beq]; exact decide_eq_false hn
       have dp : decide (0 < p) = false := decide_eq_false (by omega)
       clear hp1 hp2 hpp hk hk' h1 h3 h4 h34 hbar hcode hn h9
       go_upto_region 18 with fail)
    | (have s4 : (s.toList == [124]) = false := by rw [str_beq]; exact decide_eq_false hn
       have dp : decide (0 < p) = true := decide_eq_true (by omega)
       have hck3 : ck = 1 := by have := HCK.out; omega
       clear hp1 hp2 hpp hk hk' h1 h3 h4 h34 hbar hcode hn h9 hc9
       subst hck3
       go_upto_region 18 with fail)
    | (have s4 : (s.toList == [124]) = false := by rw [str_beq]; exact decide_eq_false hn
       have dp : decide (0 < p) = true := decide_eq_true (by omega)
       have hck3 : ck = 2 := by have := HCK.out; omega
       have hbo : bo = false := by rw [HRR.out.2, HBO.out] at hf9; exact hf9
       subst hbo
       clear hp1 hp2 hpp hk hk' h1 h3 h4 h34 hbar hcode hn h9 hc9 hf9
       subst hck3
       go_upto_region 18 with fail)
    | (have s4 : (s.toList == [124]) = false := by rw [str_beq]; exact decide_eq_false hn
       have dp : decide (0 < p) = true := decide_eq_true (by omega)
       have hck3 : ck = 3 := by have := HCK.out; omega
       have hbi : bi = false := by rw [HRR.out.1, HBI.out] at hf9; exact hf9
       subst hbi
       clear hp1 hp2 hpp hk hk' h1 h3 h4 h34 hbar hcode hn h9 hc9 hf9
       subst hck3
       go_upto_region 18 with fail)
    | (have s4 : (s.toList == [124]) = true := by rw [str_beq]; exact decide_eq_true hn
       have dp : decide (0 < p) = false := decide_eq_false (by omega)
       have d5 : decide (1 ≤ p) = false := decide_eq_false (by omega)
       have hck3 : ck = 2 := by have := HCK.out; omega
       clear hp1 hp2 hpp hk hk' h1 h3 h4 h34 hbar hcode hn h9 hc9
       subst hck3
       go_upto_region 18 with fail)
    | (have s4 : (s.toList == [124]) = true := by rw [str_beq]; exact decide_eq_true hn
       have dp : decide (0 < p) = true := decide_eq_true (by omega)
       have d5 : decide (1 ≤ p) = true := decide_eq_true (by omega)
       have d6 : decide (p ≤ 1000) = false := decide_eq_false (by omega)
       have hck3 : ck = 2 := by have := HCK.out; omega
       have hbo : bo = false := by rw [HRR.out.2, HBO.out] at hf9; exact hf9
       subst hbo
       clear hp1 hp2 hpp hk hk' h1 h3 h4 h34 hbar hcode hn h9 hc9 hf9
       subst hck3
       go_upto_region 18 with fail)
  all_goals
    (try push_cast)
    go_loopw [14, 15] (fun v14 v15 wr => ∃ (i K c' : Nat) (A : Option Addr), v15 = .int .i64 (i : Int) ∧ v14 = .slice A K c' ∧ i ≤ L.length ∧ Hid (wr.ownsRow w.heap.size 23 3 (.slice A K c') K (flO (Ho.del (L.take i) (cls k) s.data.toList)) ∧ K ≤ i ∧ Below w.heap.size w wr))
      (fun v14 v15 wr => ((L.length : Int) - intOf v15).toNat)
    case atStart => exact ⟨0, 0, 0, none, rfl, rfl, Nat.zero_le _, Lib.hid ⟨⟨rfl, .inl ⟨rfl, rfl⟩⟩, Nat.le_refl _, HB3.out⟩⟩
    case round =>
      obtain ⟨i, K, c', A, rfl, rfl, hi, HP⟩ := hrel
      have hRr : RTab wr h L := HRw.out _ HP.out.2.2
      obtain ⟨AA, cc, hbx, hcap, hAA⟩ := hRr.box
      have hbc := hbx.cell
      by_cases hlt' : i < L.length
      · have hltI : (i : Int) < (L.length : Int) := by omega
        have hi0 : (0 : Int) ≤ (i : Int) := by omega
        have hLI : (L.length : Int) ≤ 4398046511101 := by have := HLL.out; omega
        obtain ⟨sb, rfl, hrow⟩ := hAA (by omega)
        obtain ⟨y, hy⟩ : ∃ y, L[i]? = some y := ⟨_, List.getElem?_eq_getElem hlt'⟩
        obtain ⟨q0, q1, q2⟩ := hrow.of hy
        obtain ⟨yn, yt, yp, hyn, hyt, hyp, hY⟩ := opV_lit y
        rw [hyn] at q0
        rw [hyt] at q1
        rw [hyp] at q2
        have hnd : yn.data.toList = y.n := by rw [← hyn]
        obtain ⟨cy, hcy⟩ : ∃ cy, cls y.t = cy := ⟨_, rfl⟩
        have HC1 := Lib.hid (fun w1 => show Calls Tryd.prog 43 #[.int .i64 yt] w1 (fun e w' => e = .returned (.int .i64 (cy : Int)) ∧ w1 = w') from by rw [← hcy, ← hyt]; exact rclass_any y.t w1)
        have HLT := Lib.hid hlt'
        have HYY := Lib.hid (And.intro hy (And.intro hnd (And.intro hcy hY)))
        have HHH := Lib.hid (show flO [y] = [.string yn, .int .i64 yt, .int .i64 yp] by rw [flO_one, hyn, hyt, hyp])
        have hnews : ∀ j u, (flO [y])[j]? = some u → (wr.alloc (.cells #[.string yn, .int .i64 yt, .int .i64 yp] 23)).cell? ((⟨wr.heap.size, 0, none⟩ : Addr).add j) = some u := by
          rw [HHH.out]; exact cells_new3 _ _ _ _ _
        have HNw := Lib.hid hnews
        have hst : Ho.del (L.take (i + 1)) (cls k) s.data.toList = (if isK (cls k) s.data.toList y then Ho.del (L.take i) (cls k) s.data.toList else Ho.del (L.take i) (cls k) s.data.toList ++ [y]) := by
          obtain ⟨hi9, e9⟩ := List.getElem?_eq_some_iff.1 hy
          rw [List.take_succ_eq_append_getElem hi9, e9]
          unfold Ho.del
          rw [List.filter_append]
          by_cases hkk : isK (cls k) s.data.toList y = true
          · rw [if_pos hkk, List.filter_cons_of_neg (by simp [hkk])]; simp
          · rw [if_neg hkk, List.filter_cons_of_pos (by simpa using hkk)]; rfl
        have HSt := Lib.hid hst
        clear hi hlt' hrow hyn hyt hyp hcy hY hRr hbx hy hnews hst
        by_cases hn : y.n = s.data.toList
        · have s5 : (yn.toList == s.toList) = true := by rw [ByteArray.toList_eq, ByteArray.toList_eq, hnd, hn]; simp
          by_cases hcc : cy = cls k
          · have HNK := Lib.hid (show isK (cls k) s.data.toList y = true from isK_iff.2 ⟨hn, by rw [HYY.out.2.2.1]; exact hcc⟩)
            clear hn hnd HNw
            rw [HCK.out] at hcc
            subst hcc
            go_wp2_with (go_at_call 43; (with_reducible refine (HC1.out _).mono ?_); rintro e w' ⟨rfl, rfl⟩)
            go_roundw
            case rel => exact ⟨i + 1, K, c', A, rfl, rfl, HLT.out, Lib.hid ⟨by rw [HSt.out, if_pos HNK.out]; exact HP.out.1, by have := HP.out.2.1; omega, HP.out.2.2⟩⟩
            case measure =>
              have := HLT.out
              show ((L.length : Int) - ((i : Int) + 1)).toNat < ((L.length : Int) - (i : Int)).toNat
              omega
          · have HNK := Lib.hid (show ¬ isK (cls k) s.data.toList y = true from fun e => hcc (by have := (isK_iff.1 e).2; rw [HYY.out.2.2.1] at this; exact this))
            rw [HCK.out] at hcc
            have e6b := beq_eq_false_iff_ne.2 hcc
            have e6p := fun e : (cy : Int) = _ => hcc (Int.ofNat.inj e)
            have e6q := beq_eq_false_iff_ne.2 e6p
            push_cast at e6p e6q
            clear hn hnd hcc
            go_wp2_with (first
            | (go_at_call 43; (with_reducible refine (HC1.out _).mono ?_); rintro e w' ⟨rfl, rfl⟩)
            | (at_builtin; refine wpList_append_ops rfl _ _ rfl w.heap.size A K c' (Ho.del (L.take i) (cls k) s.data.toList) rfl (HP.out.1.alloc _) ⟨wr.heap.size, 0, none⟩ 1 1 [y] rfl rfl HNw.out (by have := HP.out.2.1; have := HLL.out; have := HLT.out; omega) (by have := HP.out.2.2.size; simp; omega) ?_; intro A3 c3 w3 ho3 hb3 hg3; have HO3 := Lib.hid (And.intro ho3 hb3); clear ho3 hb3 hg3))
            go_roundw
            case rel => exact ⟨i + 1, K + 1, c3, A3, rfl, rfl, HLT.out, Lib.hid ⟨by rw [HSt.out, if_neg HNK.out]; exact HO3.out.1, by have := HP.out.2.1; omega, (HP.out.2.2.alloc HP.out.2.2.size _).trans HO3.out.2⟩⟩
            case measure =>
              have := HLT.out
              show ((L.length : Int) - ((i : Int) + 1)).toNat < ((L.length : Int) - (i : Int)).toNat
              omega
        · have s5 : (yn.toList == s.toList) = false := by rw [ByteArray.toList_eq, ByteArray.toList_eq, hnd]; exact beq_eq_false_iff_ne.2 hn
          have HNK := Lib.hid (show ¬ isK (cls k) s.data.toList y = true from fun e => hn (isK_iff.1 e).1)
          clear hn hnd
          go_wp2_with (first
            | (go_at_call 43; (with_reducible refine (HC1.out _).mono ?_); rintro e w' ⟨rfl, rfl⟩)
            | (at_builtin; refine wpList_append_ops rfl _ _ rfl w.heap.size A K c' (Ho.del (L.take i) (cls k) s.data.toList) rfl (HP.out.1.alloc _) ⟨wr.heap.size, 0, none⟩ 1 1 [y] rfl rfl HNw.out (by have := HP.out.2.1; have := HLL.out; have := HLT.out; omega) (by have := HP.out.2.2.size; simp; omega) ?_; intro A3 c3 w3 ho3 hb3 hg3; have HO3 := Lib.hid (And.intro ho3 hb3); clear ho3 hb3 hg3))
          go_roundw
          case rel => exact ⟨i + 1, K + 1, c3, A3, rfl, rfl, HLT.out, Lib.hid ⟨by rw [HSt.out, if_neg HNK.out]; exact HO3.out.1, by have := HP.out.2.1; omega, (HP.out.2.2.alloc HP.out.2.2.size _).trans HO3.out.2⟩⟩
          case measure =>
            have := HLT.out
            show ((L.length : Int) - ((i : Int) + 1)).toNat < ((L.length : Int) - (i : Int)).toNat
            omega
      · have ei : i = L.length := by omega
        subst ei
        have hLI : (L.length : Int) ≤ 4398046511101 := by have := HLL.out; omega
        have HDl := Lib.hid (show wr.ownsRow w.heap.size 23 3 (.slice A K c') K (flO (Ho.del L (cls k) s.data.toList)) from by have := HP.out.1; rwa [List.take_length] at this)
        have HX := Lib.hid (show flO [(⟨s.data.toList, k, p⟩ : OpV)] = [.string s, .int .i64 k, .int .i64 p] from rfl)
        have hnews : ∀ j u, (flO [(⟨s.data.toList, k, p⟩ : OpV)])[j]? = some u → (wr.alloc (.cells #[.string s, .int .i64 k, .int .i64 p] 23)).cell? ((⟨wr.heap.size, 0, none⟩ : Addr).add j) = some u := by
          rw [HX.out]; exact cells_new3 _ _ _ _ _
        have HNw := Lib.hid hnews
        have hbf := hbx.frozen
        have HBx := Lib.hid hbx
        clear hi hlt' hAA hRr hbx hnews
        go_wp2_with (at_builtin; refine wpList_append_ops rfl _ _ rfl w.heap.size A K c' (Ho.del L (cls k) s.data.toList) rfl (HDl.out.alloc _) ⟨wr.heap.size, 0, none⟩ 1 1 [⟨s.data.toList, k, p⟩] rfl rfl HNw.out (by have := HP.out.2.1; have := HLL.out; omega) (by have := HP.out.2.2.size; simp; omega) ?_; intro A3 c3 w3 ho3 hb3 hg3; have HB9 := Lib.hid ((HP.out.2.2.alloc HP.out.2.2.size (.cells #[.string s, .int .i64 k, .int .i64 p] 23)).trans hb3); have HO3 := Lib.hid ho3; obtain ⟨A9, c9, hx9, _⟩ := (HRw.out _ HB9.out).box; have hxc := hx9.cell; have hxf := hx9.frozen; clear hx9 ho3 hb3 hg3)
        go_ret
        obtain ⟨A0, c0, hx0, _⟩ := (HRw.out w (Below.refl _ _)).box
        first
          | (obtain ⟨e1, e2⟩ := radd_end HO3.out HB9.out hx0
             refine ⟨by rw [HCo.out]; rfl, ?_, e2⟩
             rw [Ho.add, if_pos HCo.out, after, if_pos (of_decide_eq_true dp)]
             exact e1)
          | (obtain ⟨e1, e2⟩ := radd_end HDl.out HP.out.2.2 hx0
             refine ⟨by rw [HCo.out]; rfl, ?_, e2⟩
             rw [Ho.add, if_pos HCo.out, after, if_neg (of_decide_eq_false dp)]
             exact e1)
end Go.Proofs.YtfdcponamkfcaaaDoor
