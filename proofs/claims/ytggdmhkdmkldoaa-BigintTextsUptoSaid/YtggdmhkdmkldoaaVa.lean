import Derived.Test.YtggdmhkdmkldoaaSz
namespace Go.Proofs.Ytggdmhkdmkldoaa
open Go.RowKit Hb
set_option linter.unusedVariables false
set_option linter.unusedSimpArgs false

/-! ### the reference's digit -/
set_option maxHeartbeats 400000 in
theorem rdigit_any (c : Nat) (w : World) (hc : c < 256) : Calls Try.prog 76 #[.int .u8 (c : Int)] w fun e w' => e = .returned (.int .i64 (dval c : Nat)) ∧ w = w' := by
  have key : (c < 48) ∨ (48 ≤ c ∧ c ≤ 57) ∨ (58 ≤ c ∧ c < 65) ∨ (65 ≤ c ∧ c ≤ 90) ∨ (91 ≤ c ∧ c < 97) ∨ (97 ≤ c ∧ c ≤ 122) ∨ (123 ≤ c) := by omega
  rcases key with h | h | h | h | h | h | h
  · have HD := Lib.hid (show dval c = 99 by simp only [dval]; repeat (first | rw [if_pos (by omega)] | rw [if_neg (by omega)]))
    have : decide ((48 : Int) ≤ (c : Int)) = false := decide_eq_false (by omega)
    have : decide ((c : Int) ≤ 57) = true := decide_eq_true (by omega)
    have : decide ((97 : Int) ≤ (c : Int)) = false := decide_eq_false (by omega)
    have : decide ((c : Int) ≤ 122) = true := decide_eq_true (by omega)
    have : decide ((65 : Int) ≤ (c : Int)) = false := decide_eq_false (by omega)
    have : decide ((c : Int) ≤ 90) = true := decide_eq_true (by omega)
    rw [HD.out]
    go_enter Try.func76, Try.ntmps76
    go_wp2
    go_ret
    exact ⟨ret_int (by omega), rfl⟩
  · have HD := Lib.hid (show dval c = c - 48 by simp only [dval]; repeat (first | rw [if_pos (by omega)] | rw [if_neg (by omega)]))
    have : decide ((48 : Int) ≤ (c : Int)) = true := decide_eq_true (by omega)
    have : decide ((c : Int) ≤ 57) = true := decide_eq_true (by omega)
    have : decide ((97 : Int) ≤ (c : Int)) = false := decide_eq_false (by omega)
    have : decide ((c : Int) ≤ 122) = true := decide_eq_true (by omega)
    have : decide ((65 : Int) ≤ (c : Int)) = false := decide_eq_false (by omega)
    have : decide ((c : Int) ≤ 90) = true := decide_eq_true (by omega)
    rw [HD.out]
    go_enter Try.func76, Try.ntmps76
    go_wp2
    go_ret
    exact ⟨ret_int (by omega), rfl⟩
  · have HD := Lib.hid (show dval c = 99 by simp only [dval]; repeat (first | rw [if_pos (by omega)] | rw [if_neg (by omega)]))
    have : decide ((48 : Int) ≤ (c : Int)) = true := decide_eq_true (by omega)
    have : decide ((c : Int) ≤ 57) = false := decide_eq_false (by omega)
    have : decide ((97 : Int) ≤ (c : Int)) = false := decide_eq_false (by omega)
    have : decide ((c : Int) ≤ 122) = true := decide_eq_true (by omega)
    have : decide ((65 : Int) ≤ (c : Int)) = false := decide_eq_false (by omega)
    have : decide ((c : Int) ≤ 90) = true := decide_eq_true (by omega)
    rw [HD.out]
    go_enter Try.func76, Try.ntmps76
    go_wp2
    go_ret
    exact ⟨ret_int (by omega), rfl⟩
  · have HD := Lib.hid (show dval c = c - 55 by simp only [dval]; repeat (first | rw [if_pos (by omega)] | rw [if_neg (by omega)]))
    have : decide ((48 : Int) ≤ (c : Int)) = true := decide_eq_true (by omega)
    have : decide ((c : Int) ≤ 57) = false := decide_eq_false (by omega)
    have : decide ((97 : Int) ≤ (c : Int)) = false := decide_eq_false (by omega)
    have : decide ((c : Int) ≤ 122) = true := decide_eq_true (by omega)
    have : decide ((65 : Int) ≤ (c : Int)) = true := decide_eq_true (by omega)
    have : decide ((c : Int) ≤ 90) = true := decide_eq_true (by omega)
    rw [HD.out]
    go_enter Try.func76, Try.ntmps76
    go_wp2
    go_ret
    exact ⟨ret_int (by omega), rfl⟩
  · have HD := Lib.hid (show dval c = 99 by simp only [dval]; repeat (first | rw [if_pos (by omega)] | rw [if_neg (by omega)]))
    have : decide ((48 : Int) ≤ (c : Int)) = true := decide_eq_true (by omega)
    have : decide ((c : Int) ≤ 57) = false := decide_eq_false (by omega)
    have : decide ((97 : Int) ≤ (c : Int)) = false := decide_eq_false (by omega)
    have : decide ((c : Int) ≤ 122) = true := decide_eq_true (by omega)
    have : decide ((65 : Int) ≤ (c : Int)) = true := decide_eq_true (by omega)
    have : decide ((c : Int) ≤ 90) = false := decide_eq_false (by omega)
    rw [HD.out]
    go_enter Try.func76, Try.ntmps76
    go_wp2
    go_ret
    exact ⟨ret_int (by omega), rfl⟩
  · have HD := Lib.hid (show dval c = c - 87 by simp only [dval]; repeat (first | rw [if_pos (by omega)] | rw [if_neg (by omega)]))
    have : decide ((48 : Int) ≤ (c : Int)) = true := decide_eq_true (by omega)
    have : decide ((c : Int) ≤ 57) = false := decide_eq_false (by omega)
    have : decide ((97 : Int) ≤ (c : Int)) = true := decide_eq_true (by omega)
    have : decide ((c : Int) ≤ 122) = true := decide_eq_true (by omega)
    have : decide ((65 : Int) ≤ (c : Int)) = true := decide_eq_true (by omega)
    have : decide ((c : Int) ≤ 90) = false := decide_eq_false (by omega)
    rw [HD.out]
    go_enter Try.func76, Try.ntmps76
    go_wp2
    go_ret
    exact ⟨ret_int (by omega), rfl⟩
  · have HD := Lib.hid (show dval c = 99 by simp only [dval]; repeat (first | rw [if_pos (by omega)] | rw [if_neg (by omega)]))
    have : decide ((48 : Int) ≤ (c : Int)) = true := decide_eq_true (by omega)
    have : decide ((c : Int) ≤ 57) = false := decide_eq_false (by omega)
    have : decide ((97 : Int) ≤ (c : Int)) = true := decide_eq_true (by omega)
    have : decide ((c : Int) ≤ 122) = false := decide_eq_false (by omega)
    have : decide ((65 : Int) ≤ (c : Int)) = true := decide_eq_true (by omega)
    have : decide ((c : Int) ≤ 90) = false := decide_eq_false (by omega)
    rw [HD.out]
    go_enter Try.func76, Try.ntmps76
    go_wp2
    go_ret
    exact ⟨ret_int (by omega), rfl⟩
abbrev SlB := Sl u8s 256
theorem SlB.at_ {w : World} {B n c : Nat} {A : Option Addr} {l : List Nat} (h : SlB w B A n c l) (hn : 0 < n) : ∃ b o, A = some ⟨b, o, none⟩ ∧ b < B ∧ ∀ i, i < n → w.cell? ⟨b, o + i, none⟩ = some (.int .u8 (l.getD i 0 : Nat)) := by
  obtain ⟨b, o, hA, hb, hc⟩ := h.rd (by intro e; have := congrArg List.length e; rw [u8s_length, h.len] at this; simp at this; omega)
  exact ⟨b, o, hA, hb, fun i hi => hc i _ (u8s_get (by rw [h.len]; exact hi))⟩
theorem u8s_one (l : List Nat) : ∀ u ∈ u8s l, u.oneCell' = true := by
  intro u hu; obtain ⟨x, _, rfl⟩ := List.mem_map.1 hu; rfl
theorem u8s_append (l m : List Nat) : u8s l ++ u8s m = u8s (l ++ m) := by simp [u8s]
/-- append of letters, and that no other block is touched -/
theorem wp_append_farB {o : Oper} {a : Act} {K : Act → World → Prop} {Q : Exit → Act → World → Prop} {w : World} (s x : Operand)
    (ho : o.op = .call { callee := .builtin .append, args := #[s, x], argTypes := #[94, 94] })
    {base B : Nat} {A A0 : Option Addr} {n0 c0 m c : Nat} {l0 l : List Nat} (hs : a.eval s = .slice A0 n0 c0) (hown : OwnB w base A0 n0 c0 (u8s l0)) (hx : a.eval x = .slice A m c) (hA : A = none → c = 0) (hrd : SlB w B A m c l)
    (hm : n0 + m ≤ 67108864) (hbase : base ≤ w.heap.size)
    (h : ∀ A' c' w', OwnB w' base A' (n0 + m) c' (u8s (l0 ++ l)) → Below base w w' → (∀ g, g < w.heap.size → A0 ≠ some ⟨g, 0, none⟩ → w'.heap[g]? = w.heap[g]?) → (∀ g, A' = some ⟨g, 0, none⟩ → A0 = some ⟨g, 0, none⟩ ∨ w.heap.size ≤ g) → K (a.put o.dst (.slice A' (n0 + m) c')) w') : o.wp Try.prog a w K Q := by
  obtain ⟨i0, hi, hz0, hz1, hz2⟩ := info_parts infoB
  cases A with
  | none =>
    have hm0 : m = 0 := by
      rcases Nat.eq_zero_or_pos m with h0 | h0
      · exact h0
      · obtain ⟨b, o, h1, _⟩ := SlB.at_ hrd h0; cases h1
    have hc0 := hA rfl
    subst hm0; subst hc0
    have hl : l = [] := List.length_eq_zero_iff.1 hrd.len
    subst hl
    have hrun := run_append_owned_none (P := Try.prog) (w := w) base 94 o.type 5 i0 1 Try.underlying94 hi _ n0 (u8s l0) hown
    unfold Oper.wp
    simp [execOp, ho, resolve, invoke, builtin, hs, hx, hrun, Result.andThen]
    exact h A0 c0 w (by rw [List.append_nil]; exact hown) (Below.refl _ _) (fun _ _ _ => rfl) (fun _ e => .inl e)
  | some ad =>
    have hnews : ∀ j u, (u8s l)[j]? = some u → w.cell? (ad.add j) = some u := by
      intro j u hj
      have hj2 : j < m := by
        rw [← hrd.len, ← u8s_length l]
        exact (List.getElem?_eq_some_iff.1 hj).1
      obtain ⟨b, o', h1, _, hc⟩ := SlB.at_ hrd (by omega)
      obtain rfl := Option.some.inj h1
      rw [addr_add, hc j hj2, ← u8s_get (by rw [hrd.len]; exact hj2), hj]
    obtain ⟨v', w', hr, hown', hg, _, hat⟩ := run_append_own_at (P := Try.prog) w base 94 o.type 5 i0 (.int .u8 0) 1 1 Try.underlying94 hi hz0 hz1 hz2 rfl (by decide) _ n0 (u8s l0) hown ad m c (u8s l) (by rw [u8s_length, hrd.len]; simp) hnews (u8s_one l) (by simp [maxLen]; omega) (by omega) hbase
    have hf : ∃ A' c', v' = .slice A' (n0 + m) c' := by
      rcases hown'.2 with ⟨h1, h2⟩ | ⟨g', cap, cur, h1, _⟩
      · exact ⟨none, 0, by rw [h1, h2]⟩
      · exact ⟨_, _, h1⟩
    obtain ⟨A', c', rfl⟩ := hf
    unfold Oper.wp execOp
    simp only [ho, resolve, invoke, builtin, Sem.run_bind, Sem.run_pure, Result.andThen_ok, List.map_toArray, List.map_cons, List.map_nil, hs, hx, hr]
    refine h A' c' w' (by have h3 := hown'; rw [u8s_append] at h3; exact h3) ⟨hg.os, hg.tape, hg.output, hg.size, fun j hj => hg.block j (by omega) ?_⟩ (fun j hj hne => hg.block j hj ?_) (fun g e => ?_)
    · rcases Own.form hown with ⟨rfl, _⟩ | ⟨g', rfl, h4, _⟩
      · simp [Value.ownBlock]
      · simp [Value.ownBlock]; omega
    · rcases Own.form hown with ⟨rfl, _⟩ | ⟨g', rfl, h4, _⟩
      · simp [Value.ownBlock]
      · simp [Value.ownBlock]
        rintro rfl
        exact hne rfl
    · subst e
      rcases Own.form hown with ⟨rfl, _⟩ | ⟨g', rfl, h4, _⟩
      · simp [Value.ownBlock] at hat
        exact .inr (by omega)
      · simp [Value.ownBlock] at hat
        rcases hat with rfl | h5
        · exact .inl rfl
        · exact .inr (by omega)

/-! ### Text: divided by the radix, bit by bit -/
structure TxInv (l : List Nat) (n R s : Nat) (Q : List Nat) (rem : Nat) : Prop where
  lq : Q.length = n
  dq : Dig 2 Q
  hq : ∀ j, j < s → Q.getD j 0 = 0
  hr : rem < R
  hv : nv 2 (Q.drop s) * R + rem = nv 2 (l.drop s)
theorem TxInv.start {l : List Nat} {n R : Nat} (hl : l.length = n) (hR : 0 < R) : TxInv l n R n (List.replicate n 0) 0 :=
  ⟨by simp, Dig.replicate _ _ (by decide), fun j _ => getD_zeros _ _, hR, by rw [List.drop_eq_nil_of_le (by simp), List.drop_eq_nil_of_le (by omega)]; simp [nv]⟩
theorem TxInv.low {l Q : List Nat} {n R i rem t : Nat} (h : TxInv l n R (i + 1) Q rem) (hl : l.length = n) (hi : i < n) (ht : 2 * rem + l.getD i 0 = t) (hlt : t < R) : TxInv l n R i Q t := by
  refine ⟨h.lq, h.dq, fun j hj => h.hq j (by omega), hlt, ?_⟩
  have h1 := drop_nv 2 l (k := i) (by omega)
  have h2 := drop_nv 2 Q (k := i) (by rw [h.lq]; exact hi)
  have h3 := h.hv
  rw [h1, h2, h.hq i (by omega), ← h3, Nat.zero_add, Nat.mul_add, ← ht, Nat.mul_assoc]
  omega
theorem TxInv.high {l Q : List Nat} {n R i rem t : Nat} (h : TxInv l n R (i + 1) Q rem) (hl : l.length = n) (hd : Dig 2 l) (hi : i < n) (ht : 2 * rem + l.getD i 0 = t) (hge : R ≤ t) : TxInv l n R i (Q.set i 1) (t - R) := by
  have hb := hd.getD (b := 2) (by decide) i
  have h0 := h.hr
  refine ⟨by simpa using h.lq, h.dq.set (by decide) _, fun j hj => by rw [lget_set_ne (by omega)]; exact h.hq j (by omega), by omega, ?_⟩
  have h1 := drop_nv 2 l (k := i) (by omega)
  have h2 := drop_nv 2 (Q.set i 1) (k := i) (by simp [h.lq]; exact hi)
  have h3 := h.hv
  have h4 : (Q.set i 1).getD i 0 = 1 := by rw [List.getD_eq_getElem?_getD, List.getElem?_set_self (by rw [h.lq]; exact hi)]; rfl
  have h5 : (Q.set i 1).drop (i + 1) = Q.drop (i + 1) := by rw [List.drop_set, if_pos (by omega)]
  rw [h1, h2, h4, h5, ← h3, Nat.add_mul, Nat.one_mul, Nat.mul_assoc]
  generalize nv 2 (Q.drop (i + 1)) * R = p at *
  omega
theorem TxInv.done {l Q : List Nat} {n R rem : Nat} (h : TxInv l n R 0 Q rem) : nv 2 Q = nv 2 l / R ∧ rem = nv 2 l % R := by
  have h1 := h.hv
  rw [List.drop_zero, List.drop_zero] at h1
  have h2 := h.hr
  constructor
  · rw [← h1, Nat.mul_comm, Nat.mul_add_div (by omega), Nat.div_eq_of_lt h2, Nat.add_zero]
  · rw [← h1, Nat.mul_comm, Nat.mul_add_mod, Nat.mod_eq_of_lt h2]
theorem len_zero'' {y : Int} : (digs 2 y.natAbs).length = 0 ↔ y = 0 := by
  constructor
  · intro h
    have h9 := nv_digs (b := 2) (by decide) y.natAbs
    rw [List.length_eq_zero_iff.1 h] at h9
    have : (0 : Nat) = y.natAbs := h9
    omega
  · rintro rfl; rw [show (0 : Int).natAbs = 0 from rfl, digs_zero]; rfl
end Go.Proofs.Ytggdmhkdmkldoaa
