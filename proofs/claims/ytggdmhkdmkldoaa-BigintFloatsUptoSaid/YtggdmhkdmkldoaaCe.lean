import Derived.Test.YtggdmhkdmkldoaaCd
import Derived.Laws.BytesArg
namespace Go.Proofs.Ytggdmhkdmkldoaa
open Go.RowKit Hb

/-! ### the digits of a number, written -/
def chrN (d : Nat) : Nat := if d < 10 then 48 + d else 87 + d
def txtL (neg : Bool) (r n : Nat) : List Nat := if n = 0 then [48] else (if neg then [45] else []) ++ ((digs r n).map chrN).reverse
def u8s (l : List Nat) : List Value := l.map fun x : Nat => Value.int .u8 (x : Int)
abbrev OwnB := Own 5
theorem infoB : (Try.prog.info? 5).map (fun i => (i.zero, i.size, i.bytes)) = some (some (.int .u8 0), 1, 1) := by kernel_rfl
theorem u8s_length (l : List Nat) : (u8s l).length = l.length := by simp [u8s]
theorem u8s_get {l : List Nat} {i : Nat} (h : i < l.length) : (u8s l)[i]? = some (.int .u8 (l.getD i 0 : Nat)) := by
  simp [u8s, h]
theorem u8s_set (l : List Nat) (k x : Nat) : (u8s l).set k (.int .u8 (x : Int)) = u8s (l.set k x) := by simp [u8s, List.map_set]
theorem Own.keep {t : TypeId} {w w' : World} {B C n c g : Nat} {xs : List Value} (h : Own t w B (some ⟨g, 0, none⟩) n c xs) (hb : Below C w w') (hg : g < C) : Own t w' B (some ⟨g, 0, none⟩) n c xs := by
  refine ⟨h.1, ?_⟩
  rcases h.2 with h1 | ⟨g', cap, cur, h1, h2, h3, h4⟩
  · exact .inl h1
  · injection h1 with a b d
    injection a with a
    injection a with a
    subst a; subst d
    exact .inr ⟨g, c, cur, rfl, h2, (hb.block g hg).trans h3, h4⟩

theorem Own.lt' {t : TypeId} {w : World} {B n c g : Nat} {xs : List Value} (h : Own t w B (some ⟨g, 0, none⟩) n c xs) : g < w.heap.size ∧ B ≤ g := by
  rcases h.form with ⟨h1, _⟩ | ⟨g', h1, h2, h3⟩
  · cases h1
  · injection h1 with h1; injection h1 with h1; omega
/-- dividing in place, from the high end -/
def TIn (W1 : World) (B1 B2 g n c : Nat) (l : List Nat) (A' : Option Addr) (n' c' : Nat) (out : List Nat) (r i : Nat) (sv : Value) (wr : World) : Prop :=
  ∃ (o : List Nat) (rem : Nat), sv = .int .u32 (rem : Int) ∧ rem < r ∧ o.length = n ∧ Dig W o ∧ (∀ j, j < i → o.getD j 0 = l.getD j 0) ∧ nv W (o.drop i) * r + rem = nv W (l.drop i) ∧
    OwnU wr B1 (some ⟨g, 0, none⟩) n c (u32s o) ∧ OwnB wr B2 A' n' c' (u8s out) ∧ Below B1 W1 wr
theorem TIn.start {W1 wr : World} {B1 B2 g n c : Nat} {l : List Nat} {A' : Option Addr} {n' c' : Nat} {out : List Nat} {r : Nat} (hr : 0 < r) (hl : l.length = n) (hd : Dig W l) (h1 : OwnU wr B1 (some ⟨g, 0, none⟩) n c (u32s l)) (h2 : OwnB wr B2 A' n' c' (u8s out)) (h3 : Below B1 W1 wr) :
    TIn W1 B1 B2 g n c l A' n' c' out r n (.int .u32 0) wr :=
  ⟨l, 0, rfl, hr, hl, hd, fun _ _ => rfl, by rw [List.drop_eq_nil_of_le (by omega)]; simp [nv], h1, h2, h3⟩
theorem drop_set_nv {o : List Nat} {j q : Nat} (h : j < o.length) : nv W ((o.set j q).drop j) = q + W * nv W (o.drop (j + 1)) := by
  rw [drop_nv W _ (by simpa using h), List.getD_eq_getElem?_getD, List.getElem?_set_self h, List.drop_set_of_lt (by omega)]; rfl
theorem TIn.facts {W1 wr : World} {B1 B2 g n c : Nat} {l : List Nat} {A' : Option Addr} {n' c' : Nat} {out : List Nat} {r j : Nat} {sv : Value}
    (h : TIn W1 B1 B2 g n c l A' n' c' out r (j + 1) sv wr) (hj : j < n) (hl : Dig W l) (hln : l.length = n) (hr : r ≤ 36) (hg1 : B1 ≤ g) (hg2 : g < B2) :
    ∃ rem : Nat, sv = .int .u32 (rem : Int) ∧ rem < r ∧ wr.cell? ⟨g, j, none⟩ = some (.int .u32 (l.getD j 0 : Nat)) ∧ wr.frozen? ⟨g, j, none⟩ = false ∧
      Hid (∀ w2, Dr wr w2 → w2.cell? ⟨g, j, none⟩ = some (.int .u32 (l.getD j 0 : Nat)) ∧ w2.frozen? ⟨g, j, none⟩ = false ∧ TIn W1 B1 B2 g n c l A' n' c' out r j (.int .u32 (((rem * 4294967296 + l.getD j 0) % r : Nat) : Int)) (w2.setCell ⟨g, j, none⟩ (.int .u32 (((rem * 4294967296 + l.getD j 0) / r : Nat) : Int)))) := by
  obtain ⟨o, rem, rfl, h0, h1, h2, h3, h4, h5, h6, h7⟩ := h
  have hx : l.getD j 0 < 4294967296 := hl.getD (by decide) j
  have hc : wr.cell? ⟨g, j, none⟩ = some (.int .u32 (l.getD j 0 : Nat)) := by rw [Own.cell h5 hj, u32s_get (by omega), h3 j (by omega)]
  have hf := Own.frozen h5 j
  have hq : (rem * 4294967296 + l.getD j 0) / r < 4294967296 := Nat.div_lt_of_lt_mul (by
    have := Nat.mul_le_mul_right 4294967296 (show rem + 1 ≤ r from h0)
    rw [Nat.add_mul] at this
    rw [Nat.mul_comm r]; omega)
  refine ⟨rem, rfl, h0, hc, hf, fun w2 hd => ⟨(hd.cell _).trans hc, (hd.frozen _).trans hf, ?_⟩⟩
  have k5 : OwnU w2 B1 (some ⟨g, 0, none⟩) n c (u32s o) := by obtain ⟨k, rfl⟩ := hd; exact h5
  have k6 : OwnB w2 B2 A' n' c' (u8s out) := by obtain ⟨k, rfl⟩ := hd; exact h6
  have k7 : Below B1 W1 w2 := by obtain ⟨k, rfl⟩ := hd; exact belowN h7 k
  refine ⟨o.set j ((rem * 4294967296 + l.getD j 0) / r), _, rfl, Nat.mod_lt _ (by omega), by simpa using h1, h2.set hq _, fun i hi => ?_, ?_, ?_, Own.farB k6 hg2 _, k7.setCell hg1 _⟩
  · rw [lget_set_ne (by omega)]; exact h3 i (by omega)
  · rw [drop_set_nv (by omega), drop_nv W l (by omega), ← h4]
    have e := Nat.div_add_mod (rem * 4294967296 + l.getD j 0) r
    show ((rem * 4294967296 + l.getD j 0) / r + 4294967296 * nv W (o.drop (j + 1))) * r + _ = l.getD j 0 + 4294967296 * _
    rw [Nat.add_mul, Nat.mul_add, Nat.mul_comm _ r, Nat.mul_assoc]
    omega
  · have := Own.set_ k5 j (.int .u32 (((rem * 4294967296 + l.getD j 0) / r : Nat) : Int))
    rwa [u32s_set] at this
theorem TIn.done {W1 wr : World} {B1 B2 g n c : Nat} {l : List Nat} {A' : Option Addr} {n' c' : Nat} {out : List Nat} {r : Nat} {sv : Value}
    (h : TIn W1 B1 B2 g n c l A' n' c' out r 0 sv wr) :
    ∃ o : List Nat, sv = .int .u32 ((nv W l % r : Nat) : Int) ∧ nv W l % r < r ∧ o.length = n ∧ Dig W o ∧ nv W o = nv W l / r ∧ OwnU wr B1 (some ⟨g, 0, none⟩) n c (u32s o) ∧ OwnB wr B2 A' n' c' (u8s out) ∧ Below B1 W1 wr := by
  obtain ⟨o, rem, rfl, h0, h1, h2, h3, h4, h5, h6, h7⟩ := h
  simp only [List.drop_zero] at h4
  have e1 : nv W l % r = rem := by rw [← h4, Nat.mul_comm, Nat.mul_add_mod, Nat.mod_eq_of_lt h0]
  have e2 : nv W l / r = nv W o := by rw [← h4, Nat.mul_comm, Nat.mul_add_div (by omega), Nat.div_eq_of_lt h0, Nat.add_zero]
  exact ⟨o, by rw [e1], by rw [e1]; exact h0, h1, h2, e2.symm, h5, h6, h7⟩
/-- at the head of the outer loop -/
def TRel (W1 : World) (B1 B2 g c r N : Nat) (lv ov : Value) (wr : World) : Prop :=
  ∃ (n : Nat) (l : List Nat) (A' : Option Addr) (n' c' : Nat) (ds : List Nat), lv = .slice (some ⟨g, 0, none⟩) n c ∧ ov = .slice A' n' c' ∧ l.length = n ∧ n ≤ 128 ∧ Dig W l ∧ Nrm l ∧
    digs r N = ds ++ digs r (nv W l) ∧ ds.length = n' ∧ n' ≤ 4096 ∧ OwnU wr B1 (some ⟨g, 0, none⟩) n c (u32s l) ∧ OwnB wr B2 A' n' c' (u8s (ds.map chrN)) ∧ Below B1 W1 wr
theorem digs_len_r {r N : Nat} (hr : 2 ≤ r) (hN : N < 2 ^ 4096) : (digs r N).length ≤ 4096 :=
  digs_length_le (b := r) (n := N) (k := 4096) (by omega) (Nat.lt_of_lt_of_le hN (Nat.pow_le_pow_left (n := 2) (m := r) hr 4096))
theorem TRel.lt {r N : Nat} {l : List Nat} {ds : List Nat} (hr : 2 ≤ r) (hn : l ≠ []) (hnrm : Nrm l) (h : digs r N = ds ++ digs r (nv W l)) : ds.length < (digs r N).length := by
  have h1 := nv_pos (b := W) (by decide) hnrm hn
  rw [h, digs_pos (by omega) (by omega)]
  simp
theorem TRel.next {W1 wr : World} {B1 B2 g n c r N n' c' : Nat} {l o : List Nat} {A' : Option Addr} {ds : List Nat} (hr : 2 ≤ r) (hN : N < 2 ^ 4096) (hn : l ≠ []) (hnrm : Nrm l) (h : digs r N = ds ++ digs r (nv W l)) (hl : ds.length = n')
    (h1 : o.length = n) (hn128 : n ≤ 128) (h2 : Dig W o) (h3 : nv W o = nv W l / r) (h4 : OwnU wr B1 (some ⟨g, 0, none⟩) n c (u32s o)) (h5 : OwnB wr B2 A' (n' + 1) c' (u8s (ds.map chrN ++ [chrN (nv W l % r)]))) (h6 : Below B1 W1 wr) :
    TRel W1 B1 B2 g c r N (.slice (some ⟨g, 0, none⟩) (tlen o) c) (.slice A' (n' + 1) c') wr := by
  have hp := nv_pos (b := W) (by decide) hnrm hn
  have e : digs r N = (ds ++ [nv W l % r]) ++ digs r (nv W (tr o)) := by
    rw [h, nv_tr, h3, List.append_assoc, digs_pos (by omega) (by omega : nv W l ≠ 0)]; rfl
  refine ⟨tlen o, tr o, A', n' + 1, c', ds ++ [nv W l % r], rfl, rfl, tr_length o, Nat.le_trans (tlen_le o) (by omega), h2.tr, tr_nrm o, e, by simp [hl], ?_, ?_, by rw [List.map_append]; exact h5, h6⟩
  · have h7 := TRel.lt hr hn hnrm h
    have h8 := digs_len_r hr hN
    omega
  · have := Own.take h4 (k := tlen o) (by rw [← h1]; exact tlen_le o)
    rwa [u32s_take] at this
theorem wpList_append_u8 {ops : Array Oper} {rest : List Oper} {o : Oper} {a : Act} {Q : Exit → Act → World → Prop} {w : World} (hgd : o.guard = none) (s x : Operand)
    (ho : o.op = .call { callee := .builtin .append, args := #[s, x], argTypes := #[94, 94] })
    (base : Nat) (A : Option Addr) (n cp : Nat) (l : List Nat) (hs : a.eval s = .slice A n cp) (hown : OwnB w base A n cp (u8s l))
    (g : Nat) (y : Nat) (hx : a.eval x = .slice (some ⟨g, 0, none⟩) 1 1) (hc : w.cell? ⟨g, 0, none⟩ = some (.int .u8 (y : Int))) (hn : n ≤ 67108864) (hbase : base ≤ w.heap.size)
    (h : ∀ A' c' w', OwnB w' base A' (n + 1) c' (u8s (l ++ [y])) → Below base w w' → wpList Try.prog ops Q rest (a.put o.dst (.slice A' (n + 1) c')) w') : wpList Try.prog ops Q (o :: rest) a w := by
  obtain ⟨i0, hi, hz0, hz1, hz2⟩ := info_parts infoB
  refine wpList_append_own _ hgd s x 94 ho base 5 i0 (.int .u8 0) 1 1 Try.underlying94 hi hz0 hz1 hz2 rfl (by decide) _ n (u8s l) hs hown ⟨g, 0, none⟩ 1 1 [.int .u8 (y : Int)] hx rfl ?_ ?_ (by simp [maxLen]; omega) (by omega) hbase ?_
  · intro j u hj
    cases j with
    | zero => simp at hj; subst hj; exact hc
    | succ j => simp at hj
  · intro u hu; simp at hu; subst hu; rfl
  · intro v' w' hown' hg _
    have hf : ∃ A' c', v' = .slice A' (n + 1) c' := by
      rcases hown'.2 with ⟨h1, h2⟩ | ⟨g', cap, cur, h1, _⟩
      · exact absurd h2 (by simp)
      · exact ⟨_, _, h1⟩
    obtain ⟨A', c', rfl⟩ := hf
    refine h A' c' w' (by have h3 := hown'; rw [show u8s l ++ [Value.int .u8 (y : Int)] = u8s (l ++ [y]) by simp [u8s]] at h3; exact h3) ⟨hg.os, hg.tape, hg.output, hg.size, fun j hj => hg.block j (by omega) ?_⟩
    rcases Own.form hown with ⟨rfl, _⟩ | ⟨g', rfl, h4, _⟩
    · simp [Value.ownBlock]
    · simp [Value.ownBlock]; omega
/-! ### turning a list about, in place -/
def RvRel (w1 : World) (B1 B2 n g c : Nat) (l : List Nat) (i : Nat) (wr : World) : Prop :=
  ∃ o : List Nat, o.length = n ∧ (∀ j, j < n → o.getD j 0 = if j < i ∨ n ≤ j + i then l.getD (n - 1 - j) 0 else l.getD j 0) ∧ OwnB wr B2 (some ⟨g, 0, none⟩) n c (u8s o) ∧ Below B1 w1 wr
theorem RvRel.start {w1 wr : World} {B1 B2 n g c : Nat} {l : List Nat} (hl : l.length = n) (h : OwnB wr B2 (some ⟨g, 0, none⟩) n c (u8s l)) (hb : Below B1 w1 wr) : RvRel w1 B1 B2 n g c l 0 wr :=
  ⟨l, hl, fun j hj => by rw [if_neg (by omega)], h, hb⟩
theorem RvRel.drew {w1 wr : World} {B1 B2 n g c i : Nat} {l : List Nat} (h : RvRel w1 B1 B2 n g c l i wr) : RvRel w1 B1 B2 n g c l i wr.drew := by
  obtain ⟨o, h1, h2, h3, h4⟩ := h
  exact ⟨o, h1, h2, h3, h4.drew⟩
theorem RvRel.facts {w1 wr : World} {B1 B2 n g c i k : Nat} {l : List Nat} (h : RvRel w1 B1 B2 n g c l i wr) (hk : k + i + 1 = n) (hik : i < k) (hB : B1 ≤ g) :
    wr.cell? ⟨g, i, none⟩ = some (.int .u8 (l.getD i 0 : Nat)) ∧ wr.cell? ⟨g, k, none⟩ = some (.int .u8 (l.getD k 0 : Nat)) ∧ wr.frozen? ⟨g, i, none⟩ = false ∧ wr.frozen? ⟨g, k, none⟩ = false ∧
      RvRel w1 B1 B2 n g c l (i + 1) ((wr.setCell ⟨g, i, none⟩ (.int .u8 (l.getD k 0 : Nat))).setCell ⟨g, k, none⟩ (.int .u8 (l.getD i 0 : Nat))) := by
  obtain ⟨o, h1, h2, h3, h4⟩ := h
  have e1 := h2 i (by omega)
  rw [if_neg (by omega)] at e1
  have e2 := h2 k (by omega)
  rw [if_neg (by omega)] at e2
  refine ⟨by rw [Own.cell h3 (by omega), u8s_get (by omega), e1], by rw [Own.cell h3 (by omega), u8s_get (by omega), e2], Own.frozen h3 i, Own.frozen h3 k, ?_⟩
  refine ⟨(o.set i (l.getD k 0)).set k (l.getD i 0), by simpa using h1, fun j hj => ?_, ?_, (h4.setCell hB _).setCell hB _⟩
  · by_cases hjk : j = k
    · subst hjk
      rw [List.getD_eq_getElem?_getD, List.getElem?_set_self (by simp; omega), if_pos (by omega), show n - 1 - j = i by omega]; rfl
    · rw [lget_set_ne (by omega)]
      by_cases hji : j = i
      · subst hji
        rw [List.getD_eq_getElem?_getD, List.getElem?_set_self (by omega), if_pos (by omega), show n - 1 - j = k by omega]; rfl
      · rw [lget_set_ne (by omega), h2 j hj]
        by_cases hc : j < i ∨ n ≤ j + i
        · rw [if_pos hc, if_pos (by omega)]
        · rw [if_neg hc, if_neg (by omega)]
  · have := Own.set_ (Own.set_ h3 i (.int .u8 (l.getD k 0 : Nat))) k (.int .u8 (l.getD i 0 : Nat))
    rwa [u8s_set, u8s_set] at this
theorem RvRel.done {w1 wr : World} {B1 B2 n g c i : Nat} {l : List Nat} (h : RvRel w1 B1 B2 n g c l i wr) (hl : l.length = n) (hi : n ≤ 2 * i + 1) : OwnB wr B2 (some ⟨g, 0, none⟩) n c (u8s l.reverse) ∧ Below B1 w1 wr := by
  obtain ⟨o, h1, h2, h3, h4⟩ := h
  have : o = l.reverse := by
    refine List.ext_getElem (by rw [List.length_reverse]; omega) fun j hj hj2 => ?_
    have e := h2 j (by omega)
    rw [getD_eq hj] at e
    rw [e, List.getElem_reverse, ← getD_eq]
    by_cases hc : j < i ∨ n ≤ j + i
    · rw [if_pos hc, hl]
    · rw [if_neg hc, hl, show n - 1 - j = j by omega]
  exact ⟨by rw [← this]; exact h3, h4⟩
theorem conv_own {wr : World} {B2 n g c : Nat} {l : List Nat} (h : OwnB wr B2 (some ⟨g, 0, none⟩) n c (u8s l)) (hl : l.length = n) : (convert 94 9 (.slice (some ⟨g, 0, none⟩) n c)).run Try.prog wr = .ok (.string (strOfNums (l.map fun x : Nat => (x : Int)))) wr := by
  refine run_convert_bytes_arg wr 94 5 Try.underlying94 Try.underlying5 g 0 n c (l.map fun x : Nat => (x : Int)) (by simpa using hl) (fun i hi => ?_) 9 Try.underlying9
  rw [Nat.zero_add, Own.cell h hi, u8s_get (by omega), getD_eq (by omega)]
  rw [List.getD_eq_getElem?_getD, List.getElem?_map, List.getElem?_eq_getElem (by omega)]
  rfl
end Go.Proofs.Ytggdmhkdmkldoaa
