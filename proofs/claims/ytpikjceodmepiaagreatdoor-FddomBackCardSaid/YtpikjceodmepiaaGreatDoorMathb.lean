import Derived.WalkKit
import Derived.Lib.Hide
import Derived.Deep.OwnRows
import Derived.Deep.Draws
import Derived.Deep.QuietTactic
import Derived.Laws.CopyOwn
set_option linter.unusedVariables false
set_option linter.unusedSimpArgs false
/-
  Plain lemmas on digit lists: values, normal forms, trimming. No program in sight.
-/
set_option linter.unusedVariables false
set_option linter.unusedSimpArgs false
namespace Hb

/-- the value of digits, the lowest first -/
def nv (b : Nat) : List Nat → Nat
  | [] => 0
  | x :: l => x + b * nv b l

/-- all digits are below the base -/
def Dig (b : Nat) (l : List Nat) : Prop := ∀ x ∈ l, x < b

theorem Dig.nil (b : Nat) : Dig b [] := by intro x hx; cases hx
theorem Dig.cons {b x : Nat} {l : List Nat} (hx : x < b) (h : Dig b l) : Dig b (x :: l) := by
  intro y hy
  rcases List.mem_cons.1 hy with rfl | hy
  · exact hx
  · exact h y hy
theorem Dig.head {b x : Nat} {l : List Nat} (h : Dig b (x :: l)) : x < b := h x (by simp)
theorem Dig.tail {b x : Nat} {l : List Nat} (h : Dig b (x :: l)) : Dig b l := fun y hy => h y (by simp [hy])
theorem Dig.append {b : Nat} {l m : List Nat} (h : Dig b l) (k : Dig b m) : Dig b (l ++ m) := by
  intro y hy
  rcases List.mem_append.1 hy with hy | hy
  · exact h y hy
  · exact k y hy
theorem Dig.left {b : Nat} {l m : List Nat} (h : Dig b (l ++ m)) : Dig b l := fun y hy => h y (by simp [hy])
theorem Dig.right {b : Nat} {l m : List Nat} (h : Dig b (l ++ m)) : Dig b m := fun y hy => h y (by simp [hy])
theorem Dig.take {b : Nat} {l : List Nat} (h : Dig b l) (k : Nat) : Dig b (l.take k) := fun y hy => h y (List.mem_of_mem_take hy)
theorem Dig.drop {b : Nat} {l : List Nat} (h : Dig b l) (k : Nat) : Dig b (l.drop k) := fun y hy => h y (List.mem_of_mem_drop hy)
theorem Dig.getD {b : Nat} {l : List Nat} (h : Dig b l) (hb : 0 < b) (k : Nat) : l.getD k 0 < b := by
  rw [List.getD_eq_getElem?_getD]
  cases hk : l[k]? with
  | none => simpa using hb
  | some x => exact h x (List.mem_of_getElem? hk)
theorem Dig.replicate (b n : Nat) (hb : 0 < b) : Dig b (List.replicate n 0) := by
  intro x hx
  rw [(List.mem_replicate.1 hx).2]; exact hb

theorem nv_nil (b : Nat) : nv b [] = 0 := rfl
theorem nv_cons (b x : Nat) (l : List Nat) : nv b (x :: l) = x + b * nv b l := rfl
theorem nv_single (b x : Nat) : nv b [x] = x := by simp [nv]

theorem nv_append (b : Nat) (l m : List Nat) : nv b (l ++ m) = nv b l + b ^ l.length * nv b m := by
  induction l with
  | nil => simp [nv]
  | cons x l ih =>
    simp only [List.cons_append, nv, ih, List.length_cons, Nat.pow_succ, Nat.mul_add]
    rw [Nat.mul_comm (b ^ l.length) b, Nat.mul_assoc]
    omega

theorem nv_replicate (b n : Nat) : nv b (List.replicate n 0) = 0 := by
  induction n with
  | zero => rfl
  | succ n ih => simp [List.replicate_succ, nv, ih]

theorem nv_snoc (b : Nat) (l : List Nat) (x : Nat) : nv b (l ++ [x]) = nv b l + b ^ l.length * x := by
  rw [nv_append, nv_single]

theorem nv_lt {b : Nat} {l : List Nat} (h : Dig b l) : nv b l < b ^ l.length := by
  induction l with
  | nil => simp [nv]
  | cons x l ih =>
    have hx := h.head
    have hl := ih h.tail
    simp only [nv, List.length_cons, Nat.pow_succ]
    have h1 : b * (nv b l + 1) ≤ b * b ^ l.length := Nat.mul_le_mul_left _ hl
    rw [Nat.mul_comm (b ^ l.length) b]
    rw [Nat.mul_add] at h1
    omega

theorem nv_take_drop (b : Nat) (l : List Nat) (k : Nat) : nv b l = nv b (l.take k) + b ^ (min k l.length) * nv b (l.drop k) := by
  conv => lhs; rw [← List.take_append_drop k l]
  rw [nv_append, List.length_take]

/-- the first digit, and what is behind it -/
theorem nv_mod {b x : Nat} {l : List Nat} (hx : x < b) : nv b (x :: l) % b = x := by
  rw [nv_cons, Nat.add_mul_mod_self_left, Nat.mod_eq_of_lt hx]
theorem nv_div {b x : Nat} {l : List Nat} (hx : x < b) : nv b (x :: l) / b = nv b l := by
  rw [nv_cons, Nat.add_mul_div_left _ _ (by omega), Nat.div_eq_of_lt hx, Nat.zero_add]

/-- equal lengths, equal values: equal digits -/
theorem nv_inj {b : Nat} : ∀ {l m : List Nat}, Dig b l → Dig b m → l.length = m.length → nv b l = nv b m → l = m
  | [], [], _, _, _, _ => rfl
  | [], _ :: _, _, _, h, _ => by simp at h
  | _ :: _, [], _, _, h, _ => by simp at h
  | x :: l, y :: m, hl, hm, hlen, h => by
    have h1 := nv_mod (l := l) hl.head
    have h2 := nv_mod (l := m) hm.head
    have h3 := nv_div (l := l) hl.head
    have h4 := nv_div (l := m) hm.head
    rw [h] at h1 h3
    have e1 : x = y := h1.symm.trans h2
    have e2 : nv b l = nv b m := h3.symm.trans h4
    rw [e1, nv_inj hl.tail hm.tail (by simpa using hlen) e2]

/-- normal: no nought at the high end -/
def Nrm (l : List Nat) : Prop := ∀ h : l ≠ [], l.getLast h ≠ 0

theorem Nrm.nil : Nrm [] := fun h => absurd rfl h
theorem Nrm.tail {x : Nat} {l : List Nat} (h : Nrm (x :: l)) : Nrm l := by
  intro hl
  have := h (by simp)
  rwa [List.getLast_cons hl] at this

theorem nv_pos {b : Nat} (hb : 0 < b) {l : List Nat} (h : Nrm l) (hl : l ≠ []) : 0 < nv b l := by
  induction l with
  | nil => exact absurd rfl hl
  | cons x l ih =>
    by_cases he : l = []
    · subst he
      have := h hl
      simp at this
      simp [nv]; omega
    · have := ih h.tail he
      rw [nv_cons]
      have := Nat.mul_pos hb this
      omega

theorem nv_ge {b : Nat} {l : List Nat} (h : Nrm l) (hl : l ≠ []) : b ^ (l.length - 1) ≤ nv b l := by
  induction l with
  | nil => exact absurd rfl hl
  | cons x l ih =>
    by_cases he : l = []
    · subst he
      have := h hl
      simp at this
      simp [nv]; omega
    · have h1 := ih h.tail he
      have hlen : 0 < l.length := List.length_pos_iff.2 he
      rw [nv_cons]
      have e : (x :: l).length - 1 = (l.length - 1) + 1 := by simp; omega
      rw [e, Nat.pow_succ, Nat.mul_comm]
      have := Nat.mul_le_mul_left b h1
      omega

theorem pow_lt_pow' {b m n : Nat} (hb : 1 < b) (h : b ^ m < b ^ n) : m < n := by
  rcases Nat.lt_or_ge m n with h1 | h1
  · exact h1
  · have := Nat.pow_le_pow_right (n := b) (by omega) h1; omega

/-- normal digits of the same value are the same -/
theorem nrm_inj {b : Nat} (hb : 1 < b) {l m : List Nat} (hl : Dig b l) (hm : Dig b m) (nl : Nrm l) (nm : Nrm m) (h : nv b l = nv b m) : l = m := by
  refine nv_inj hl hm ?_ h
  have key : ∀ {l m : List Nat}, Dig b l → Dig b m → Nrm l → Nrm m → nv b l = nv b m → l.length ≤ m.length := by
    intro l m hl hm nl nm h
    by_cases he : l = []
    · simp [he]
    · have h1 := nv_ge (b := b) nl he
      have h2 := nv_lt hm
      have := pow_lt_pow' hb (Nat.lt_of_le_of_lt (h ▸ h1) h2)
      have hlen : 0 < l.length := List.length_pos_iff.2 he
      omega
  exact Nat.le_antisymm (key hl hm nl nm h) (key hm hl nm nl h.symm)

/-- how many digits are left without the noughts at the high end -/
def tlen : List Nat → Nat
  | [] => 0
  | x :: l => if tlen l = 0 then (if x = 0 then 0 else 1) else tlen l + 1
def tr (l : List Nat) : List Nat := l.take (tlen l)

theorem tlen_le (l : List Nat) : tlen l ≤ l.length := by
  induction l with
  | nil => simp [tlen]
  | cons x l ih => simp only [tlen, List.length_cons]; split <;> (try split) <;> omega
theorem tr_nil : tr [] = [] := rfl
theorem tr_length (l : List Nat) : (tr l).length = tlen l := by
  rw [tr, List.length_take]; exact Nat.min_eq_left (tlen_le l)
theorem tr_cons (x : Nat) (l : List Nat) : tr (x :: l) = if tlen l = 0 then (if x = 0 then [] else [x]) else x :: tr l := by
  simp only [tr, tlen]
  split
  · split <;> simp
  · simp
theorem nv_tr (b : Nat) (l : List Nat) : nv b (tr l) = nv b l := by
  induction l with
  | nil => rfl
  | cons x l ih =>
    rw [tr_cons]
    split
    · rename_i h
      have : nv b l = 0 := by rw [← ih, tr, h]; simp [nv]
      split
      · rename_i hx; simp [nv, this, hx]
      · simp [nv, this]
    · simp [nv, ih]
theorem Dig.tr {b : Nat} {l : List Nat} (h : Dig b l) : Dig b (tr l) := h.take _
theorem tlen_last {l : List Nat} (h : 0 < tlen l) : l.getD (tlen l - 1) 0 ≠ 0 := by
  induction l with
  | nil => simp [tlen] at h
  | cons x l ih =>
    simp only [tlen] at h ⊢
    split
    · split
      · rename_i h1 h2; simp [h1, h2] at h
      · rename_i h1 h2; simpa using h2
    · rename_i h1
      have h3 : 0 < tlen l := by omega
      have e : tlen l + 1 - 1 = (tlen l - 1) + 1 := by omega
      rw [e, List.getD_cons_succ]
      exact ih h3
theorem nrm_of_getD {l : List Nat} (h : l ≠ [] → l.getD (l.length - 1) 0 ≠ 0) : Nrm l := by
  intro hl
  have := h hl
  rw [List.getLast_eq_getElem]
  have hlen : 0 < l.length := List.length_pos_iff.2 hl
  rwa [List.getD_eq_getElem?_getD, List.getElem?_eq_getElem (by omega)] at this
theorem nrm_getD {l : List Nat} (h : Nrm l) (hl : l ≠ []) : l.getD (l.length - 1) 0 ≠ 0 := by
  have := h hl
  have hlen : 0 < l.length := List.length_pos_iff.2 hl
  rw [List.getLast_eq_getElem] at this
  rwa [List.getD_eq_getElem?_getD, List.getElem?_eq_getElem (by omega)]
theorem tr_nrm (l : List Nat) : Nrm (tr l) := by
  refine nrm_of_getD fun h => ?_
  have h0 : 0 < tlen l := by rw [← tr_length]; exact List.length_pos_iff.2 h
  rw [tr_length]
  have := tlen_last h0
  rwa [tr, List.getD_eq_getElem?_getD, List.getElem?_take_of_lt (by omega), ← List.getD_eq_getElem?_getD]
/-- one digit less, if the last one is nought -/
theorem tlen_take_last {l : List Nat} {n : Nat} (hn : tlen l ≤ n + 1) (h : l.getD n 0 = 0) : tlen l ≤ n := by
  rcases Nat.lt_or_ge n (tlen l) with h1 | h1
  · have h2 : tlen l = n + 1 := by omega
    have h3 := tlen_last (l := l) (by omega)
    rw [h2] at h3
    exact absurd h h3
  · exact h1
theorem getD_ge_tlen {l : List Nat} {k : Nat} (h : tlen l ≤ k) : l.getD k 0 = 0 := by
  induction l generalizing k with
  | nil => simp
  | cons x l ih =>
    simp only [tlen] at h
    split at h
    · rename_i h1
      split at h
      · rename_i h2
        cases k with
        | zero => simpa using h2
        | succ k => rw [List.getD_cons_succ]; exact ih (by omega)
      · cases k with
        | zero => omega
        | succ k => rw [List.getD_cons_succ]; exact ih (by omega)
    · cases k with
      | zero => omega
      | succ k => rw [List.getD_cons_succ]; exact ih (by omega)
theorem tlen_eq_of {l : List Nat} {n : Nat} (hn : tlen l ≤ n) (h : n = 0 ∨ l.getD (n - 1) 0 ≠ 0) : tlen l = n := by
  rcases h with h | h
  · omega
  · rcases Nat.lt_or_ge (tlen l) n with h1 | h1
    · exact absurd (getD_ge_tlen (l := l) (k := n - 1) (by omega)) h
    · omega
theorem tlen_of_nrm {l : List Nat} (h : Nrm l) : tlen l = l.length := by
  refine tlen_eq_of (tlen_le l) ?_
  by_cases hl : l = []
  · left; simp [hl]
  · exact .inr (nrm_getD h hl)
theorem tr_of_nrm {l : List Nat} (h : Nrm l) : tr l = l := by rw [tr, tlen_of_nrm h, List.take_length]
theorem tlen_zero_iff {b : Nat} (hb : 0 < b) (l : List Nat) : tlen l = 0 ↔ nv b l = 0 := by
  rw [← nv_tr b l]
  constructor
  · intro h; rw [tr, h]; simp [nv]
  · intro h
    rcases Nat.eq_zero_or_pos (tlen l) with h1 | h1
    · exact h1
    · have := nv_pos hb (tr_nrm l) (by rw [← List.length_pos_iff, tr_length]; exact h1)
      omega

/-- the digits of a number -/
def digs (b : Nat) (n : Nat) : List Nat := if _h : 1 < b ∧ n ≠ 0 then n % b :: digs b (n / b) else []
termination_by n
decreasing_by exact Nat.div_lt_self (by omega) _h.1

theorem digs_zero (b : Nat) : digs b 0 = [] := by rw [digs]; simp
theorem digs_pos {b n : Nat} (hb : 1 < b) (hn : n ≠ 0) : digs b n = n % b :: digs b (n / b) := by
  rw [digs, dif_pos ⟨hb, hn⟩]
theorem nv_digs {b : Nat} (hb : 1 < b) (n : Nat) : nv b (digs b n) = n := by
  induction n using Nat.strongRecOn with
  | _ n ih =>
    by_cases hn : n = 0
    · subst hn; rw [digs_zero]; rfl
    · rw [digs_pos hb hn, nv_cons, ih _ (Nat.div_lt_self (by omega) hb)]
      exact Nat.mod_add_div n b
theorem dig_digs {b : Nat} (hb : 1 < b) (n : Nat) : Dig b (digs b n) := by
  induction n using Nat.strongRecOn with
  | _ n ih =>
    by_cases hn : n = 0
    · subst hn; rw [digs_zero]; exact Dig.nil b
    · rw [digs_pos hb hn]
      exact Dig.cons (Nat.mod_lt _ (by omega)) (ih _ (Nat.div_lt_self (by omega) hb))
theorem nrm_cons {b x : Nat} {l : List Nat} (hl : Nrm l) (h : x + b * nv b l ≠ 0) : Nrm (x :: l) := by
  intro hne
  by_cases he : l = []
  · subst he
    simpa [nv] using h
  · rw [List.getLast_cons he]; exact hl he
theorem nrm_digs {b : Nat} (hb : 1 < b) (n : Nat) : Nrm (digs b n) := by
  induction n using Nat.strongRecOn with
  | _ n ih =>
    by_cases hn : n = 0
    · subst hn; rw [digs_zero]; exact Nrm.nil
    · rw [digs_pos hb hn]
      refine nrm_cons (b := b) (ih _ (Nat.div_lt_self (by omega) hb)) ?_
      rw [nv_digs hb, Nat.mod_add_div]; exact hn
/-- whatever digits: trimmed, they are the number's -/
theorem tr_eq_digs {b : Nat} (hb : 1 < b) {l : List Nat} (h : Dig b l) : tr l = digs b (nv b l) :=
  nrm_inj hb h.tr (dig_digs hb _) (tr_nrm l) (nrm_digs hb _) (by rw [nv_tr, nv_digs hb])
theorem nrm_eq_digs {b : Nat} (hb : 1 < b) {l : List Nat} (h : Dig b l) (hn : Nrm l) : l = digs b (nv b l) := by
  rw [← tr_eq_digs hb h, tr_of_nrm hn]
theorem digs_eq_nil {b : Nat} (hb : 1 < b) (n : Nat) : digs b n = [] ↔ n = 0 := by
  constructor
  · intro h; rw [← nv_digs hb n, h]; rfl
  · rintro rfl; exact digs_zero b
theorem digs_length_le {b : Nat} (hb : 1 < b) {n k : Nat} (h : n < b ^ k) : (digs b n).length ≤ k := by
  by_cases hn : n = 0
  · subst hn; simp [digs_zero]
  · have h1 := nv_ge (b := b) (nrm_digs hb n) (by rwa [ne_eq, digs_eq_nil hb])
    rw [nv_digs hb] at h1
    have := pow_lt_pow' hb (Nat.lt_of_le_of_lt h1 h)
    omega
theorem lt_of_digs_length {b : Nat} (hb : 1 < b) {n k : Nat} (h : (digs b n).length ≤ k) : n < b ^ k := by
  have h1 := nv_lt (dig_digs hb n)
  rw [nv_digs hb] at h1
  exact Nat.lt_of_lt_of_le h1 (Nat.pow_le_pow_right (by omega) h)
theorem digs_length_le_iff {b : Nat} (hb : 1 < b) {n k : Nat} : (digs b n).length ≤ k ↔ n < b ^ k :=
  ⟨lt_of_digs_length hb, digs_length_le hb⟩

/-- comparing by lengths first -/
theorem nv_lt_of_len {b : Nat} {l m : List Nat} (hb : 0 < b) (hl : Dig b l) (nm : Nrm m) (h : l.length < m.length) : nv b l < nv b m := by
  have h1 := nv_lt hl
  have h2 := nv_ge (b := b) nm (by intro he; simp [he] at h)
  exact Nat.lt_of_lt_of_le h1 (Nat.le_trans (Nat.pow_le_pow_right hb (by omega)) h2)
theorem getD_eq {l : List Nat} {k : Nat} (h : k < l.length) : l.getD k 0 = l[k] := by
  rw [List.getD_eq_getElem?_getD, List.getElem?_eq_getElem h]; rfl
theorem take_succ_nv (b : Nat) (l : List Nat) {k : Nat} (h : k < l.length) : nv b (l.take (k + 1)) = nv b (l.take k) + b ^ k * l.getD k 0 := by
  rw [List.take_succ_eq_append_getElem h, nv_snoc, List.length_take, Nat.min_eq_left (by omega), getD_eq h]
theorem drop_nv (b : Nat) (l : List Nat) {k : Nat} (h : k < l.length) : nv b (l.drop k) = l.getD k 0 + b * nv b (l.drop (k + 1)) := by
  rw [List.drop_eq_getElem_cons h, nv_cons, getD_eq h]

end Hb

namespace Hb
/-- how many bits a number has -/
def blen (n : Nat) : Nat := (digs 2 n).length
theorem blen_le_iff {n k : Nat} : blen n ≤ k ↔ n < 2 ^ k := digs_length_le_iff (by omega)
theorem blen_eq_of {n k : Nat} (h1 : 2 ^ k ≤ n) (h2 : n < 2 ^ (k + 1)) : blen n = k + 1 := by
  have a := blen_le_iff.2 h2
  rcases Nat.lt_or_ge k (blen n) with h | h
  · omega
  · have := blen_le_iff.1 h; omega
theorem blen_zero : blen 0 = 0 := by simp [blen, digs_zero]
theorem blen_log2 {n : Nat} (h : n ≠ 0) : blen n = Nat.log2 n + 1 := blen_eq_of (Nat.log2_self_le h) Nat.lt_log2_self
theorem blen_pos {n : Nat} (h : n ≠ 0) : 0 < blen n := by rw [blen_log2 h]; omega
theorem blen_bounds {n : Nat} (h : n ≠ 0) : 2 ^ (blen n - 1) ≤ n ∧ n < 2 ^ blen n := by
  rw [blen_log2 h]; exact ⟨Nat.log2_self_le h, Nat.lt_log2_self⟩
theorem blen_add_mul {k x y : Nat} (hx : x < 2 ^ k) (hy : y ≠ 0) : blen (x + 2 ^ k * y) = k + blen y := by
  obtain ⟨h1, h2⟩ := blen_bounds hy
  have hp := blen_pos hy
  have e : k + blen y = (k + (blen y - 1)) + 1 := by omega
  rw [e]
  refine blen_eq_of ?_ ?_
  · rw [Nat.pow_add]; have := Nat.mul_le_mul_left (2 ^ k) h1; omega
  · rw [show k + (blen y - 1) + 1 = k + blen y by omega, Nat.pow_add]
    have := Nat.mul_le_mul_left (2 ^ k) (show y + 1 ≤ 2 ^ blen y from h2)
    rw [Nat.mul_add] at this
    omega
theorem blen_shift {k n : Nat} (h : 2 ^ k ≤ n) : blen n = k + blen (n / 2 ^ k) := by
  have hp : 0 < 2 ^ k := Nat.pow_pos (by omega)
  have h1 : n / 2 ^ k ≠ 0 := by have := Nat.div_pos h hp; omega
  have := blen_add_mul (Nat.mod_lt n hp) h1
  rwa [Nat.mod_add_div] at this
theorem blen_mono {m n : Nat} (h : m ≤ n) : blen m ≤ blen n := blen_le_iff.2 (Nat.lt_of_le_of_lt h (blen_le_iff.1 (Nat.le_refl _)))
/-- limbs of 32 bits -/
abbrev W : Nat := 4294967296
theorem W_pow : W = 2 ^ 32 := rfl
theorem W_pow_eq (k : Nat) : W ^ k = 2 ^ (32 * k) := by rw [Nat.pow_mul]
theorem W128 : W ^ 128 = 2 ^ 4096 := by rw [W_pow_eq, show 32 * 128 = 4096 from rfl]
theorem one_lt_M : 1 < 2 ^ 4096 := Nat.one_lt_two_pow (n := 4096) (by decide)
theorem M_pos : 0 < 2 ^ 4096 := Nat.pow_pos (a := 2) (n := 4096) (by decide)
theorem blen_limbs {l : List Nat} (hd : Dig W l) (h0 : 0 < tlen l) : blen (nv W l) = 32 * (tlen l - 1) + blen (l.getD (tlen l - 1) 0) := by
  have hl := tlen_last h0
  have e : tr l = l.take (tlen l - 1) ++ [l.getD (tlen l - 1) 0] := by
    have h1 : tlen l - 1 < l.length := by have := tlen_le l; omega
    have h2 : l.take (tlen l - 1 + 1) = l.take (tlen l - 1) ++ [l.getD (tlen l - 1) 0] := by rw [List.take_succ_eq_append_getElem h1, getD_eq h1]
    rw [tr, ← h2]
    congr 1
    omega
  rw [← nv_tr, e, nv_snoc, List.length_take, Nat.min_eq_left (by have := tlen_le l; omega), W_pow_eq]
  refine blen_add_mul ?_ hl
  have := nv_lt (hd.take (tlen l - 1))
  rwa [List.length_take, Nat.min_eq_left (by have := tlen_le l; omega), W_pow_eq] at this
end Hb

namespace Hb
/-! ### one limb behind the other: adding, taking away -/
theorem pow_succ_mul (b k x : Nat) : b ^ (k + 1) * x = b ^ k * (b * x) := by rw [Nat.pow_succ, Nat.mul_assoc]
theorem set_zeros (o : List Nat) (m s : Nat) : (o ++ List.replicate (m + 1) 0).set o.length s = (o ++ [s]) ++ List.replicate m 0 := by
  rw [List.set_append_right _ _ (Nat.le_refl _), Nat.sub_self, List.replicate_succ, List.set_cons_zero, List.append_assoc]; rfl
theorem set_zeros' {o : List Nat} {k n s : Nat} (hk : o.length = k) (hn : k < n) : (o ++ List.replicate (n - k) 0).set k s = (o ++ [s]) ++ List.replicate (n - (k + 1)) 0 := by
  subst hk
  obtain ⟨m, hm⟩ : ∃ m, n - o.length = m + 1 := ⟨n - o.length - 1, by omega⟩
  rw [hm, set_zeros]
  congr 2
  omega
theorem nv_zeros (b : Nat) (l : List Nat) (k : Nat) : nv b (l ++ List.replicate k 0) = nv b l := by rw [nv_append, nv_replicate]; simp
/-- the value of the first k digits, noughts behind the end -/
def nvp (b : Nat) (l : List Nat) (k : Nat) : Nat := nv b (l.take k)
theorem nvp_zero (b : Nat) (l : List Nat) : nvp b l 0 = 0 := by simp [nvp, nv]
theorem nvp_succ (b : Nat) (l : List Nat) (k : Nat) : nvp b l (k + 1) = nvp b l k + b ^ k * l.getD k 0 := by
  unfold nvp
  rcases Nat.lt_or_ge k l.length with h | h
  · exact take_succ_nv b l h
  · rw [List.take_of_length_le (by omega), List.take_of_length_le h, List.getD_eq_getElem?_getD, List.getElem?_eq_none h]; simp
theorem nvp_all {b : Nat} {l : List Nat} {k : Nat} (h : l.length ≤ k) : nvp b l k = nv b l := by
  unfold nvp; rw [List.take_of_length_le h]
theorem nvp_lt {b : Nat} {l : List Nat} (hd : Dig b l) (hb : 0 < b) (k : Nat) : nvp b l k < b ^ k := by
  have h := nv_lt (hd.take k)
  unfold nvp
  exact Nat.lt_of_lt_of_le h (Nat.pow_le_pow_right hb (by rw [List.length_take]; omega))
theorem add_step {b k v c x y X Y : Nat} (h : v + b ^ k * c = X + Y) : (v + b ^ k * ((x + y + c) % b)) + b ^ (k + 1) * ((x + y + c) / b) = (X + b ^ k * x) + (Y + b ^ k * y) := by
  have h2 := Nat.mod_add_div (x + y + c) b
  rw [pow_succ_mul, Nat.add_assoc, ← Nat.mul_add, h2, Nat.mul_add, Nat.mul_add]
  omega
theorem sub_step {b k v c x y X Y d c' : Nat} (h : v + Y = X + b ^ k * c) (hd : d + y + c = x + b * c') : (v + b ^ k * d) + (Y + b ^ k * y) = (X + b ^ k * x) + b ^ (k + 1) * c' := by
  rw [pow_succ_mul]
  have h2 := congrArg (fun t => b ^ k * t) hd
  simp only [Nat.mul_add] at h2
  omega
end Hb

namespace Hb
/-! ### one limb turned; products -/
theorem nv_set (b : Nat) {l : List Nat} {p : Nat} (h : p < l.length) (v : Nat) : nv b (l.set p v) + b ^ p * l.getD p 0 = nv b l + b ^ p * v := by
  induction l generalizing p with
  | nil => simp at h
  | cons x l ih =>
    cases p with
    | zero => simp [nv]; omega
    | succ p =>
      have h2 := ih (p := p) (by simpa using h)
      simp only [List.set_cons_succ, nv, List.getD_cons_succ, Nat.pow_succ]
      have h3 := congrArg (fun t => b * t) h2
      simp only [Nat.mul_add, ← Nat.mul_assoc] at h3
      rw [Nat.mul_comm (b ^ p) b]
      omega
theorem Dig.set {b : Nat} {l : List Nat} (h : Dig b l) {v : Nat} (hv : v < b) (p : Nat) : Dig b (l.set p v) := by
  intro y hy
  rcases List.mem_or_eq_of_mem_set hy with hy | rfl
  · exact h y hy
  · exact hv
theorem lget_set_ne {l : List Nat} {p j v : Nat} (h : p ≠ j) : (l.set p v).getD j 0 = l.getD j 0 := by
  rw [List.getD_eq_getElem?_getD, List.getD_eq_getElem?_getD, List.getElem?_set_ne h]
/-- one step of a row of a product -/
theorem mul_step {b p v v' c x y d V t : Nat} (hset : v' + b ^ p * d = v + b ^ p * (t % b)) (ht : t = x * y + d + c) (h : v + b ^ p * c = V) :
    v' + b ^ (p + 1) * (t / b) = V + b ^ p * (x * y) := by
  have h2 := Nat.mod_add_div t b
  rw [pow_succ_mul]
  have h3 : b ^ p * (t % b) + b ^ p * (b * (t / b)) = b ^ p * t := by rw [← Nat.mul_add, h2]
  have h4 : b ^ p * t = b ^ p * (x * y) + b ^ p * d + b ^ p * c := by rw [ht, Nat.mul_add, Nat.mul_add]
  omega
theorem mul_lt {x y d c : Nat} (hx : x < 4294967296) (hy : y < 4294967296) (hd : d < 4294967296) (hc : c < 4294967296) : x * y ≤ 18446744065119617025 ∧ (x * y + d + c) / 4294967296 < 4294967296 := by
  have h : x * y ≤ 4294967295 * 4294967295 := Nat.mul_le_mul (by omega) (by omega)
  omega
end Hb

namespace Hb
/-! ### division: what is left of a row; shifting back -/
theorem nv_drop_zero {b : Nat} {l : List Nat} {M : Nat} (_hb : 0 < b) (h : nv b l < b ^ M) (hM : M ≤ l.length) : nv b (l.drop M) = 0 := by
  have h1 := nv_take_drop b l M
  rw [Nat.min_eq_left hM] at h1
  rcases Nat.eq_zero_or_pos (nv b (l.drop M)) with h2 | h2
  · exact h2
  · have := Nat.mul_le_mul_left (b ^ M) h2
    omega
theorem nv_split {b : Nat} {l : List Nat} {k : Nat} (hk : k ≤ l.length) : nv b l = nv b (l.take k) + b ^ k * nv b (l.drop k) := by
  have h1 := nv_take_drop b l k
  rwa [Nat.min_eq_left hk] at h1
theorem nvp_of_lt {b : Nat} {l : List Nat} {M : Nat} (hb : 0 < b) (h : nv b l < b ^ M) : nvp b l M = nv b l := by
  rcases Nat.lt_or_ge l.length M with h1 | h1
  · exact nvp_all (by omega)
  · have h2 := nv_drop_zero hb h h1
    have h3 := nv_split (b := b) h1
    rw [h2, Nat.mul_zero, Nat.add_zero] at h3
    exact h3.symm
theorem nvp_mono {b : Nat} {l : List Nat} {M N : Nat} (h : nvp b l N < b ^ M) (hb : 0 < b) (hMN : M ≤ N) : nvp b l M = nvp b l N := by
  have h1 := nvp_of_lt (l := l.take N) hb h
  unfold nvp at h1 ⊢
  rwa [List.take_take, Nat.min_eq_left hMN] at h1
/-- one limb moved down -/
theorem down_step {b S D x y X Y : Nat} (hb : b = S * D) (hS : 0 < S) (hX : X = y + b * Y) : (x + b * X) / S = (x / S + (y * D) % b) + b * (X / S) := by
  have hDb : 0 < D ∨ D = 0 := by omega
  have e1 : (x + b * X) / S = x / S + D * X := by
    rw [hb, Nat.mul_assoc, Nat.add_mul_div_left _ _ hS]
  have e2 : X % S = y % S := by rw [hX, hb, Nat.mul_assoc, Nat.add_mul_mod_self_left]
  have e3 : (y * D) % b = D * (y % S) := by rw [hb, Nat.mul_comm y D, Nat.mul_comm S D, Nat.mul_mod_mul_left]
  have e4 : D * X = b * (X / S) + D * (X % S) := by
    have := Nat.div_add_mod X S
    have h5 : D * (S * (X / S) + X % S) = D * X := by rw [this]
    rw [Nat.mul_add, ← Nat.mul_assoc, Nat.mul_comm D S, ← hb] at h5
    exact h5.symm
  rw [e1, e3, e4, e2]
  omega
theorem div_of_shift {A B Q R S : Nat} (hS : 0 < S) (h : R + (B * S) * Q = A * S) (hR : R < B * S) : A / B = Q ∧ A % B = R / S ∧ R / S < B := by
  have hd : S ∣ R := by
    have h1 : S ∣ R + (B * S) * Q := ⟨A, by rw [h, Nat.mul_comm]⟩
    have h2 : S ∣ (B * S) * Q := ⟨B * Q, by rw [Nat.mul_comm B S, Nat.mul_assoc]⟩
    exact (Nat.dvd_add_left h2).1 h1
  obtain ⟨r, rfl⟩ := hd
  rw [Nat.mul_div_cancel_left _ hS]
  have h3 : S * (r + B * Q) = S * A := by
    rw [Nat.mul_add, Nat.mul_comm S A, ← h, Nat.mul_comm B S, Nat.mul_assoc]
  have h4 := Nat.eq_of_mul_eq_mul_left hS h3
  have h5 : r < B := by
    rw [Nat.mul_comm B S] at hR
    exact Nat.lt_of_mul_lt_mul_left hR
  subst h4
  exact ⟨by rw [Nat.add_mul_div_left _ _ (by omega), Nat.div_eq_of_lt h5, Nat.zero_add], by rw [Nat.add_mul_mod_self_left, Nat.mod_eq_of_lt h5], h5⟩
end Hb

/-
  Slices that read as lists of numbers; slices that the call itself has made. No program in sight.
-/
set_option linter.unusedVariables false
set_option linter.unusedSimpArgs false
namespace Hb
open Go Go.RowKit

/-- nothing but draws -/
def Dr (a w : World) : Prop := ∃ k, w = a.drewN k
theorem Dr.refl (a : World) : Dr a a := ⟨0, rfl⟩
theorem Dr.more {a w : World} (h : Dr a w) (n : Nat) : Dr a (w.drewN n) := by
  obtain ⟨k, rfl⟩ := h
  exact ⟨k + n, by rw [World.drewN_drewN]⟩
theorem Dr.drew {a w : World} (h : Dr a w) : Dr a w.drew := h.more 1
theorem Dr.trans {a b c : World} (h : Dr a b) (k : Dr b c) : Dr a c := by
  obtain ⟨n, rfl⟩ := k
  exact h.more n
theorem Dr.cell {a w : World} (h : Dr a w) (p : Addr) : w.cell? p = a.cell? p := by
  obtain ⟨k, rfl⟩ := h
  rfl
theorem Dr.heap {a w : World} (h : Dr a w) : w.heap = a.heap := by
  obtain ⟨k, rfl⟩ := h
  rfl
theorem Dr.frozen {a w : World} (h : Dr a w) (p : Addr) : w.frozen? p = a.frozen? p := by
  obtain ⟨k, rfl⟩ := h
  rfl
theorem Dr.setCell {a w : World} (h : Dr a w) (p : Addr) (u : Value) : Dr (a.setCell p u) (w.setCell p u) := by
  obtain ⟨k, rfl⟩ := h
  exact ⟨k, rfl⟩
theorem Dr.alloc {a w : World} (h : Dr a w) (o : Obj) : Dr (a.alloc o) (w.alloc o) := by
  obtain ⟨k, rfl⟩ := h
  exact ⟨k, rfl⟩
theorem Dr.below {a w : World} (h : Dr a w) (B : Nat) : Below B a w := by
  obtain ⟨k, rfl⟩ := h
  exact ⟨rfl, rfl, rfl, Nat.le_refl _, fun _ _ => rfl⟩
theorem belowN {B : Nat} {a w : World} (h : Below B a w) (n : Nat) : Below B a (w.drewN n) := ⟨h.os, h.tape, h.output, h.size, h.block⟩

theorem quiet_left {P : Program} {f : FuncId} {args : Array Value} {w : World} {n : Nat} {v : Value}
    (h : Calls P f args (w.drewN n) fun e w' => e = .returned v ∧ w.drewN n = w') : Calls P f args (w.drewN n) fun e w'' => e = .returned v ∧ ∃ m, w'' = w.drewN m :=
  h.mono fun _ _ ⟨he, hm⟩ => ⟨he, n, hm.symm⟩
theorem quiet_add_left {P : Program} {f : FuncId} {args : Array Value} {w : World} {a n : Nat} {v : Value}
    (h : Calls P f args (w.drewN (a + n)) fun e w' => e = .returned v ∧ w.drewN (a + n) = w') :
    Calls P f args (w.drewN (a + n)) fun e w'' => e = .returned v ∧ ∃ m, w'' = w.drewN (a + m) :=
  h.mono fun _ _ ⟨he, hm⟩ => ⟨he, n, hm.symm⟩
/-- limbs, and ints, as cells -/
def u32s (l : List Nat) : List Value := l.map fun x : Nat => Value.int .u32 (x : Int)
def i64s (l : List Nat) : List Value := l.map fun x : Nat => Value.int .i64 (x : Int)
theorem u32s_length (l : List Nat) : (u32s l).length = l.length := by simp [u32s]
theorem i64s_length (l : List Nat) : (i64s l).length = l.length := by simp [i64s]
theorem u32s_get {l : List Nat} {i : Nat} (h : i < l.length) : (u32s l)[i]? = some (.int .u32 (l.getD i 0 : Nat)) := by
  simp [u32s, h]
theorem i64s_get {l : List Nat} {i : Nat} (h : i < l.length) : (i64s l)[i]? = some (.int .i64 (l.getD i 0 : Nat)) := by
  simp [i64s, h]
theorem u32s_take (l : List Nat) (k : Nat) : (u32s l).take k = u32s (l.take k) := by simp [u32s, List.map_take]
theorem i64s_take (l : List Nat) (k : Nat) : (i64s l).take k = i64s (l.take k) := by simp [i64s, List.map_take]
theorem u32s_drop (l : List Nat) (k : Nat) : (u32s l).drop k = u32s (l.drop k) := by simp [u32s, List.map_drop]
theorem i64s_drop (l : List Nat) (k : Nat) : (i64s l).drop k = i64s (l.drop k) := by simp [i64s, List.map_drop]
theorem u32s_append (l m : List Nat) : u32s l ++ u32s m = u32s (l ++ m) := by simp [u32s]
theorem i64s_append (l m : List Nat) : i64s l ++ i64s m = i64s (l ++ m) := by simp [i64s]
theorem u32s_set (l : List Nat) (k x : Nat) : (u32s l).set k (.int .u32 (x : Int)) = u32s (l.set k x) := by simp [u32s, List.map_set]
theorem i64s_set (l : List Nat) (k x : Nat) : (i64s l).set k (.int .i64 (x : Int)) = i64s (l.set k x) := by simp [i64s, List.map_set]
theorem u32s_one (l : List Nat) : ∀ u ∈ u32s l, u.oneCell' = true := by
  intro u hu; obtain ⟨x, _, rfl⟩ := List.mem_map.1 hu; rfl
theorem i64s_one (l : List Nat) : ∀ u ∈ i64s l, u.oneCell' = true := by
  intro u hu; obtain ⟨x, _, rfl⟩ := List.mem_map.1 hu; rfl
theorem u32s_ne {l : List Nat} (h : 0 < l.length) : u32s l ≠ [] := by
  intro e; have := congrArg List.length e; simp [u32s_length] at this; subst this; simp at h
theorem i64s_ne {l : List Nat} (h : 0 < l.length) : i64s l ≠ [] := by
  intro e; have := congrArg List.length e; simp [i64s_length] at this; subst this; simp at h
theorem u32s_zeros (n : Nat) : (madeCells #[Value.int .u32 0] n).toList = u32s (List.replicate n 0) := by
  rw [toList_madeCells_one]; simp [u32s]
theorem i64s_zeros (n : Nat) : (madeCells #[Value.int .i64 0] n).toList = i64s (List.replicate n 0) := by
  rw [toList_madeCells_one]; simp [i64s]

/-- The slice at A reads as xs; it lies below block B. -/
def Rd (w : World) (B : Nat) (A : Option Addr) (xs : List Value) : Prop :=
  xs ≠ [] → ∃ b o, A = some ⟨b, o, none⟩ ∧ b < B ∧ ∀ i v, xs[i]? = some v → w.cell? ⟨b, o + i, none⟩ = some v

section
variable {w w' : World} {B : Nat} {A : Option Addr} {xs : List Value}
theorem Rd.nil (w : World) (B : Nat) (A : Option Addr) : Rd w B A [] := fun h => absurd rfl h
theorem Rd.below (h : Rd w B A xs) {C : Nat} (hb : Below C w w') (hC : B ≤ C) : Rd w' B A xs := fun hx => by
  obtain ⟨b, o, hA, hlt, hc⟩ := h hx
  exact ⟨b, o, hA, hlt, fun i v hi => (hb.cell (p := ⟨b, o + i, none⟩) (Nat.lt_of_lt_of_le hlt hC)).trans (hc i v hi)⟩
theorem Rd.mono (h : Rd w B A xs) {B' : Nat} (hB : B ≤ B') : Rd w B' A xs := fun hx => by
  obtain ⟨b, o, hA, hlt, hc⟩ := h hx
  exact ⟨b, o, hA, Nat.lt_of_lt_of_le hlt hB, hc⟩
theorem Rd.take (h : Rd w B A xs) (k : Nat) : Rd w B A (xs.take k) := fun hx => by
  obtain ⟨b, o, hA, hlt, hc⟩ := h (by rintro rfl; simp at hx)
  refine ⟨b, o, hA, hlt, fun i v hi => hc i v ?_⟩
  rw [List.getElem?_take] at hi
  split at hi
  · exact hi
  · cases hi
end

/-- A slice that came in: n limbs l, capacity c, below block B; E makes the cells. -/
structure Sl (E : List Nat → List Value) (base : Nat) (w : World) (B : Nat) (A : Option Addr) (n c : Nat) (l : List Nat) : Prop where
  len : l.length = n
  cap : n ≤ c
  max : c ≤ maxLen
  dig : Dig base l
  rd : Rd w B A (E l)
abbrev SlU := Sl u32s 4294967296
abbrev SlI := Sl i64s 2

section
variable {E : List Nat → List Value} {base : Nat} {w w' : World} {B : Nat} {A : Option Addr} {n c : Nat} {l : List Nat}
theorem Sl.below (h : Sl E base w B A n c l) {C : Nat} (hb : Below C w w') (hC : B ≤ C) : Sl E base w' B A n c l := ⟨h.len, h.cap, h.max, h.dig, h.rd.below hb hC⟩
theorem Sl.mono (h : Sl E base w B A n c l) {B' : Nat} (hB : B ≤ B') : Sl E base w B' A n c l := ⟨h.len, h.cap, h.max, h.dig, h.rd.mono hB⟩
theorem SlU.take (h : SlU w B A n c l) {k : Nat} (hk : k ≤ n) : SlU w B A k c (l.take k) :=
  ⟨by rw [List.length_take, h.len]; omega, Nat.le_trans hk h.cap, h.max, h.dig.take _, by rw [← u32s_take]; exact h.rd.take k⟩
theorem SlI.take (h : SlI w B A n c l) {k : Nat} (hk : k ≤ n) : SlI w B A k c (l.take k) :=
  ⟨by rw [List.length_take, h.len]; omega, Nat.le_trans hk h.cap, h.max, h.dig.take _, by rw [← i64s_take]; exact h.rd.take k⟩
theorem SlU.tr (h : SlU w B A n c l) : SlU w B A (tlen l) c (tr l) := h.take (by rw [← h.len]; exact tlen_le l)
theorem SlI.tr (h : SlI w B A n c l) : SlI w B A (tlen l) c (tr l) := h.take (by rw [← h.len]; exact tlen_le l)
theorem SlU.nil (w : World) (B : Nat) (A : Option Addr) (c : Nat) (hc : c ≤ maxLen) : SlU w B A 0 c [] := ⟨rfl, Nat.zero_le _, hc, Dig.nil _, Rd.nil _ _ _⟩
theorem SlI.nil (w : World) (B : Nat) (A : Option Addr) (c : Nat) (hc : c ≤ maxLen) : SlI w B A 0 c [] := ⟨rfl, Nat.zero_le _, hc, Dig.nil _, Rd.nil _ _ _⟩
/-- where an element is, the slice has an address -/
theorem SlU.at_ (h : SlU w B A n c l) (hn : 0 < n) : ∃ b o, A = some ⟨b, o, none⟩ ∧ b < B ∧ ∀ i, i < n → w.cell? ⟨b, o + i, none⟩ = some (.int .u32 (l.getD i 0 : Nat)) := by
  obtain ⟨b, o, hA, hb, hc⟩ := h.rd (u32s_ne (by rw [h.len]; exact hn))
  exact ⟨b, o, hA, hb, fun i hi => hc i _ (u32s_get (by rw [h.len]; exact hi))⟩
theorem SlI.at_ (h : SlI w B A n c l) (hn : 0 < n) : ∃ b o, A = some ⟨b, o, none⟩ ∧ b < B ∧ ∀ i, i < n → w.cell? ⟨b, o + i, none⟩ = some (.int .i64 (l.getD i 0 : Nat)) := by
  obtain ⟨b, o, hA, hb, hc⟩ := h.rd (i64s_ne (by rw [h.len]; exact hn))
  exact ⟨b, o, hA, hb, fun i hi => hc i _ (i64s_get (by rw [h.len]; exact hi))⟩
end

theorem addr_add (b o i : Nat) : (⟨b, o, none⟩ : Addr).add i = ⟨b, o + i, none⟩ := by unfold Addr.add; split <;> simp_all
theorem add_zero' (g i : Nat) : (⟨g, 0, none⟩ : Addr).add i = ⟨g, i, none⟩ := by unfold Addr.add; split <;> simp_all
/-- A slice of the call's own, from block B on: its limbs l; it may be written, and it reaches to its row's end. -/
def Own (t : TypeId) (w : World) (B : Nat) (A : Option Addr) (n c : Nat) (xs : List Value) : Prop := w.ownsRow B t 1 (.slice A n c) n xs

section
variable {t : TypeId} {w w' : World} {B g : Nat} {A : Option Addr} {n c : Nat} {xs : List Value} {l : List Nat}
theorem Own.length (h : Own t w B A n c xs) : xs.length = n := by have := h.1; omega
theorem Own.form (h : Own t w B A n c xs) : (A = none ∧ n = 0 ∧ c = 0) ∨ ∃ g, A = some ⟨g, 0, none⟩ ∧ B ≤ g ∧ g < w.heap.size := by
  rcases h.2 with ⟨h1, _⟩ | ⟨g, cap, cur, h1, h2, h3, _⟩
  · left; injection h1 with a b c; exact ⟨a, b, c⟩
  · right; injection h1 with a b c; exact ⟨g, a, h2, (Array.getElem?_eq_some_iff.1 h3).1⟩
theorem Own.at_ (h : Own t w B A n c xs) (hn : 0 < n) : ∃ g, A = some ⟨g, 0, none⟩ ∧ B ≤ g ∧ g < w.heap.size := by
  rcases h.form with ⟨_, h1, _⟩ | h1
  · omega
  · exact h1
theorem Own.cap (h : Own t w B A n c xs) : n ≤ c ∧ c ≤ maxLen := by
  rcases h.2 with ⟨h1, _⟩ | ⟨g, cap, cur, h1, h2, h3, h4, h5, _⟩
  · injection h1 with a b c; subst b; subst c; exact ⟨Nat.le_refl _, by simp [maxLen]⟩
  · injection h1 with a b c; subst c; exact ⟨h4, h5⟩
theorem Own.below (h : Own t w B A n c xs) {C : Nat} (hb : Below C w w') (hC : w.heap.size ≤ C) : Own t w' B A n c xs := by
  refine ⟨h.1, ?_⟩
  rcases h.2 with h1 | ⟨g, cap, cur, h1, h2, h3, h4⟩
  · exact .inl h1
  · exact .inr ⟨g, cap, cur, h1, h2, (hb.block g (Nat.lt_of_lt_of_le (Array.getElem?_eq_some_iff.1 h3).1 hC)).trans h3, h4⟩
theorem Own.mono (h : Own t w B A n c xs) {B' : Nat} (hB : B' ≤ B) : Own t w B' A n c xs := by
  refine ⟨h.1, ?_⟩
  rcases h.2 with h1 | ⟨g, cap, cur, h1, h2, h3, h4⟩
  · exact .inl h1
  · exact .inr ⟨g, cap, cur, h1, Nat.le_trans hB h2, h3, h4⟩
theorem Own.take (h : Own t w B A n c xs) {k : Nat} (hk : k ≤ n) : Own t w B A k c (xs.take k) := by
  have hl := h.length
  have hc := h.cap
  rcases h.2 with ⟨h1, h2⟩ | ⟨g, cap, cur, h1, h2, h3, h4, h5, h6, h7⟩
  · injection h1 with a b c
    subst a; subst b; subst c
    have : k = 0 := by omega
    subst this
    exact ⟨by simp, .inl ⟨rfl, by simp⟩⟩
  · injection h1 with a b c
    subst a; subst c
    refine ⟨by rw [List.length_take]; omega, .inr ⟨g, _, cur, rfl, h2, h3, by omega, h5, h6, ?_⟩⟩
    rw [← h7, List.take_take]
    congr 1
    omega
theorem Own.rd (h : Own t w B A n c xs) : Rd w w.heap.size A xs := fun hx => by
  have hn : 0 < n := by rw [← h.length]; exact List.length_pos_iff.2 hx
  obtain ⟨g, rfl, h1, h2⟩ := h.at_ hn
  refine ⟨g, 0, rfl, h2, fun i v hi => ?_⟩
  have := World.ownsRow.cells h (g := g) rfl i v hi
  rw [add_zero' g i] at this
  rw [Nat.zero_add]; exact this
theorem Own.sl {E : List Nat → List Value} {base : Nat} (h : Own t w B A n c (E l)) (hd : Dig base l) (hl : l.length = n) : Sl E base w w.heap.size A n c l :=
  ⟨hl, h.cap.1, h.cap.2, hd, h.rd⟩
/-- out of a block that is known whole -/
theorem Own.of_block (hg : w.heap[g]? = some (.cells xs.toArray t (0, 0))) (hB : B ≤ g) (hm : xs.length ≤ maxLen) : Own t w B (some ⟨g, 0, none⟩) xs.length xs.length xs :=
  ⟨by simp, .inr ⟨g, _, _, rfl, hB, hg, Nat.le_refl _, hm, by simp, by simp⟩⟩
theorem Own.made (w : World) (z : Value) (n : Nat) (t : TypeId) (hB : B ≤ w.heap.size) (hm : n ≤ maxLen) :
    Own t (w.alloc (.cells (madeCells #[z] n) t)) B (some ⟨w.heap.size, 0, none⟩) n n (madeCells #[z] n).toList := by
  have h := Own.of_block (w := w.alloc (.cells (madeCells #[z] n) t)) (g := w.heap.size) (t := t) (B := B) (xs := (madeCells #[z] n).toList) (by rw [Array.toArray_toList]; exact heap_alloc_new w _) hB (by simpa [size_madeCells] using hm)
  have e : (madeCells #[z] n).toList.length = n := by simp [size_madeCells]
  rw [e] at h
  exact h
theorem Own.alloc (h : Own t w B A n c xs) (o : Obj) : Own t (w.alloc o) B A n c xs := World.ownsRow.alloc h o
theorem Own.drew (h : Own t w B A n c xs) : Own t w.drew B A n c xs := h
/-- an element is read, is written -/
theorem Own.cell (h : Own t w B (some ⟨g, 0, none⟩) n c xs) {j : Nat} (hj : j < n) : w.cell? ⟨g, j, none⟩ = xs[j]? := by
  have hc := h.cap
  have := World.ownsRow.cells h (g := g) rfl
  have e : xs[j]? = some (xs[j]'(by rw [h.length]; exact hj)) := List.getElem?_eq_getElem _
  rw [e]
  have h2 := this j _ e
  rw [add_zero' g j] at h2
  exact h2
theorem Own.frozen (h : Own t w B (some ⟨g, 0, none⟩) n c xs) (j : Nat) : w.frozen? ⟨g, j, none⟩ = false := by
  rcases h.2 with ⟨h1, _⟩ | ⟨g', cap, cur, h1, h2, h3, _⟩
  · cases h1
  · injection h1 with a b c
    injection a with a
    injection a with a
    subst a
    simp [World.frozen?, h3]
theorem Own.set_ (h : Own t w B (some ⟨g, 0, none⟩) n c xs) (j : Nat) (u : Value) : Own t (w.setCell ⟨g, j, none⟩ u) B (some ⟨g, 0, none⟩) n c (xs.set j u) := by
  rcases h.2 with ⟨h1, _⟩ | ⟨g', cap, cur, h1, h2, h3, h4, h5, h6, h7⟩
  · cases h1
  · injection h1 with a b cc
    injection a with a
    injection a with a
    subst a; subst cc
    refine ⟨by simpa using h.1, .inr ⟨g, c, cur.setIfInBounds j u, rfl, h2, ?_, h4, h5, by simpa using h6, ?_⟩⟩
    · simp [World.setCell, Array.getElem?_modify, h3]
    · rw [← h7, Array.toList_setIfInBounds, List.take_set]
theorem Own.far (h : Own t w B A n c xs) {p : Addr} (hp : ∀ g, A = some ⟨g, 0, none⟩ → g ≠ p.block) (u : Value) : Own t (w.setCell p u) B A n c xs := by
  refine ⟨h.1, ?_⟩
  rcases h.2 with h1 | ⟨g, cap, cur, h1, h2, h3, h4⟩
  · exact .inl h1
  · injection h1 with a b c
    exact .inr ⟨g, cap, cur, by rw [a, c], h2, (Below.heap_setCell w p u g (hp g a)).trans h3, h4⟩
end

/-- a block of limbs, known whole -/
def UB (t : TypeId) (w : World) (g : Nat) (L : List Nat) : Prop := w.heap[g]? = some (.cells (u32s L).toArray t (0, 0))
section
variable {t : TypeId} {w w' : World} {g : Nat} {L : List Nat}
theorem UB.cell (h : UB t w g L) {i : Nat} (hi : i < L.length) : w.cell? ⟨g, i, none⟩ = some (.int .u32 (L.getD i 0 : Nat)) := by
  rw [cell_of_row w g i _ t (0, 0) h]
  simpa using u32s_get hi
theorem UB.frozen (h : UB t w g L) (i : Nat) : w.frozen? ⟨g, i, none⟩ = false := by unfold UB at h; simp [World.frozen?, h]
theorem UB.lt (h : UB t w g L) : g < w.heap.size := (Array.getElem?_eq_some_iff.1 h).1
theorem UB.set_ (h : UB t w g L) (i x : Nat) : UB t (w.setCell ⟨g, i, none⟩ (.int .u32 (x : Int))) g (L.set i x) := by
  unfold UB at h ⊢
  rw [← u32s_set]
  simp [World.setCell, Array.getElem?_modify, h]
theorem UB.drewN (h : UB t w g L) (k : Nat) : UB t (w.drewN k) g L := h
theorem UB.own (h : UB t w g L) {B : Nat} (hB : B ≤ g) (hm : L.length ≤ maxLen) : Own t w B (some ⟨g, 0, none⟩) L.length L.length (u32s L) := by
  have := Own.of_block (xs := u32s L) h hB (by rw [u32s_length]; exact hm)
  rwa [u32s_length] at this
theorem Own.ub {B n : Nat} (h : Own t w B (some ⟨g, 0, none⟩) n n (u32s L)) : UB t w g L := by
  rcases h.2 with ⟨h1, _⟩ | ⟨g', cap, cur, h1, h2, h3, h4, h5, h6, h7⟩
  · cases h1
  · injection h1 with a b c
    injection a with a
    injection a with a
    subst a; subst c
    rw [List.take_of_length_le (by rw [Array.length_toList]; omega)] at h7
    unfold UB
    rw [h3, ← h7, Array.toArray_toList]
theorem gb_refl (w : World) (row : Option Nat) : w.grownBy w row := World.grownBy.refl w row
theorem gb_drewN {a : World} {row : Option Nat} (h : a.grownBy w row) (n : Nat) : a.grownBy (w.drewN n) row := ⟨h.os, h.tape, h.output, h.size, h.block⟩
theorem gb_setCell {a : World} (h : a.grownBy w (some g)) (i : Nat) (u : Value) : a.grownBy (w.setCell ⟨g, i, none⟩ u) (some g) :=
  ⟨h.os, h.tape, h.output, by simpa [World.setCell] using h.size, fun j hj hne => (Below.heap_setCell w ⟨g, i, none⟩ u j (by rintro rfl; exact hne rfl)).trans (h.block j hj hne)⟩
theorem gb_below {a : World} (h : a.grownBy w (some g)) {B : Nat} (hB : B ≤ g) (ha : B ≤ a.heap.size) : Below B a w :=
  ⟨h.os, h.tape, h.output, h.size, fun j hj => h.block j (by omega) (by simp; omega)⟩
theorem gb_trans {a b c : World} {row : Option Nat} (h : a.grownBy b row) (k : b.grownBy c row) : a.grownBy c row :=
  ⟨k.os.trans h.os, k.tape.trans h.tape, k.output.trans h.output, Nat.le_trans h.size k.size, fun j hj hne => (k.block j (Nat.lt_of_lt_of_le hj h.size) hne).trans (h.block j hj hne)⟩
end
end Hb

