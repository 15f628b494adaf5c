import Derived.Test.YtggdmhkdmkldoaaMath
namespace Hb
set_option linter.unusedVariables false

/-! ### division of bits, from the high end: plain -/
structure DvInv (l m : List Nat) (n s : Nat) (Q R : List Nat) : Prop where
  lq : Q.length = n
  lr : R.length = n
  dq : Dig 2 Q
  dr : Dig 2 R
  hs : s ≤ n
  hq : ∀ j, j < s → Q.getD j 0 = 0
  hv : nv 2 R + nv 2 Q * nv 2 m = nv 2 l
  hlt : nv 2 (R.drop s) < nv 2 m
theorem DvInv.start {l m : List Nat} {n : Nat} (hl : l.length = n) (hd : Dig 2 l) (hm : 0 < nv 2 m) : DvInv l m n n (List.replicate n 0) l :=
  ⟨by simp, hl, Dig.replicate _ _ (by decide), hd, Nat.le_refl _, fun j hj => by
    rw [List.getD_eq_getElem?_getD, List.getElem?_replicate]; split <;> rfl, by rw [nv_replicate, Nat.zero_mul, Nat.add_zero], by rw [List.drop_eq_nil_of_le (by omega)]; exact hm⟩
theorem DvInv.end_ {l m Q R : List Nat} {n : Nat} (h : DvInv l m n 0 Q R) : nv 2 Q = nv 2 l / nv 2 m ∧ nv 2 R = nv 2 l % nv 2 m := by
  have h1 := h.hlt
  rw [List.drop_zero] at h1
  have h2 := h.hv
  have hpos : 0 < nv 2 m := by omega
  constructor
  · rw [← h2, Nat.add_mul_div_right _ _ hpos, Nat.div_eq_of_lt h1, Nat.zero_add]
  · rw [← h2, Nat.add_mul_mod_self_right, Nat.mod_eq_of_lt h1]
theorem DvInv.less {l m Q R : List Nat} {n i : Nat} (h : DvInv l m n (i + 1) Q R) (hv : nv 2 (R.drop i) < nv 2 m) : DvInv l m n i Q R :=
  ⟨h.lq, h.lr, h.dq, h.dr, by have := h.hs; omega, fun j hj => h.hq j (by omega), h.hv, hv⟩
/-- what is looked at: the bits from i on below the top -/
theorem zeros_drop {b : Nat} : ∀ (l : List Nat), (∀ j, l.getD j 0 = 0) → nv b l = 0
  | [], _ => rfl
  | x :: l, h => by
    have h0 := h 0
    have h1 := zeros_drop (b := b) l (fun j => h (j + 1))
    rw [nv_cons, h1]
    show x + b * 0 = 0
    have : x = 0 := h0
    omega
theorem getD_drop (l : List Nat) (i j : Nat) : (l.drop i).getD j 0 = l.getD (i + j) 0 := by
  rw [List.getD_eq_getElem?_getD, List.getD_eq_getElem?_getD, List.getElem?_drop]
theorem part_nv {R : List Nat} {i top : Nat} (hi : i ≤ top) (ht : top ≤ R.length) (hz : ∀ j, top ≤ j → R.getD j 0 = 0) : nv 2 (R.drop i) = nv 2 ((R.drop i).take (top - i)) := by
  rw [nv_split (k := top - i) (by rw [List.length_drop]; omega), zeros_drop ((R.drop i).drop (top - i)) (fun j => by rw [getD_drop, getD_drop]; exact hz _ (by omega)), Nat.mul_zero, Nat.add_zero]
theorem part_nrm {R : List Nat} {i top : Nat} (hi : i ≤ top) (ht : top ≤ R.length) (h : top = i ∨ R.getD (top - 1) 0 ≠ 0) : Nrm ((R.drop i).take (top - i)) := by
  refine nrm_of_getD fun hne => ?_
  have hlen : ((R.drop i).take (top - i)).length = top - i := by rw [List.length_take, List.length_drop]; omega
  have hpos : 0 < top - i := by
    rw [← hlen]; exact List.length_pos_iff.2 hne
  rw [hlen, List.getD_eq_getElem?_getD, List.getElem?_take_of_lt (by omega), ← List.getD_eq_getElem?_getD, getD_drop, show i + (top - i - 1) = top - 1 by omega]
  rcases h with h | h
  · omega
  · exact h
/-- within the subtraction: j bits done -/
structure DsInv (l m : List Nat) (n i top : Nat) (Q R R2 : List Nat) (j c : Nat) : Prop where
  l2 : R2.length = n
  d2 : Dig 2 R2
  hc : c ≤ 1
  ht : R2.take i = R.take i
  hr : ∀ k, i + j ≤ k → R2.getD k 0 = R.getD k 0
  hv : nvp 2 (R2.drop i) j + nvp 2 m j = nvp 2 (R.drop i) j + 2 ^ j * c
theorem DsInv.start {l m Q R : List Nat} {n i top : Nat} (hl : R.length = n) (hd : Dig 2 R) : DsInv l m n i top Q R R 0 0 :=
  ⟨hl, hd, by omega, rfl, fun _ _ => rfl, by simp [nvp_zero]⟩
theorem nvp_set (b : Nat) (S : List Nat) {j : Nat} (d : Nat) (hj : j < S.length) : nvp b (S.set j d) (j + 1) = nvp b S j + b ^ j * d := by
  rw [nvp_succ, nvp, nvp, List.take_set_of_le (Nat.le_refl _)]
  congr 2
  rw [List.getD_eq_getElem?_getD, List.getElem?_set_self hj]; rfl
theorem DsInv.step {l m Q R R2 : List Nat} {n i top j c d c' : Nat} (h : DsInv l m n i top Q R R2 j c) (hij : i + j < n) (hd : d < 2) (hc' : c' ≤ 1) (he : d + m.getD j 0 + c = R2.getD (i + j) 0 + 2 * c') :
    DsInv l m n i top Q R (R2.set (i + j) d) (j + 1) c' := by
  refine ⟨by simpa using h.l2, h.d2.set hd _, hc', ?_, fun k hk => ?_, ?_⟩
  · rw [List.take_set_of_le (by omega)]; exact h.ht
  · rw [lget_set_ne (by omega)]; exact h.hr k (by omega)
  · have hlen : j < (R2.drop i).length := by rw [List.length_drop, h.l2]; omega
    have e : (R2.set (i + j) d).drop i = (R2.drop i).set j d := by
      rw [List.drop_set, if_neg (by omega)]
      congr 1
      omega
    rw [e, nvp_set 2 _ d hlen, nvp_succ 2 m, nvp_succ 2 (R.drop i), getD_drop, ← h.hr (i + j) (Nat.le_refl _)]
    exact sub_step h.hv he
theorem DsInv.done {l m Q R R2 : List Nat} {n i top c : Nat} (h : DsInv l m n i top Q R R2 (top - i) c) (H : DvInv l m n (i + 1) Q R) (hi : i < top) (ht : top ≤ n) (hz : ∀ j, top ≤ j → R.getD j 0 = 0) (hm : m.length ≤ top - i) (hge : nv 2 m ≤ nv 2 (R.drop i)) :
    DvInv l m n i (Q.set i 1) R2 ∧ ∀ j, top ≤ j → R2.getD j 0 = 0 := by
  have hz2 : ∀ j, top ≤ j → R2.getD j 0 = 0 := fun j hj => by rw [h.hr j (by omega)]; exact hz j hj
  have e1 : nv 2 (R2.drop i) = nvp 2 (R2.drop i) (top - i) := part_nv (by omega) (by rw [h.l2]; exact ht) hz2
  have e2 : nv 2 (R.drop i) = nvp 2 (R.drop i) (top - i) := part_nv (by omega) (by rw [H.lr]; exact ht) hz
  have h1 := h.hv
  rw [nvp_all hm, ← e1, ← e2] at h1
  have h2 : nv 2 (R2.drop i) < 2 ^ (top - i) := by rw [e1]; exact nvp_lt (h.d2.drop i) (by decide) _
  have hc := h.hc
  have hc0 : c = 0 := by
    rcases (by omega : c = 0 ∨ c = 1) with e | e
    · exact e
    · subst e; omega
  subst hc0
  rw [Nat.mul_zero, Nat.add_zero] at h1
  have hlt : nv 2 (R.drop i) < 2 * nv 2 m := by
    have h3 := drop_nv 2 R (k := i) (by rw [H.lr]; omega)
    have h4 := H.hlt
    have h5 := H.dr.getD (b := 2) (by decide) i
    omega
  have hvq : nv 2 (Q.set i 1) = nv 2 Q + 2 ^ i := by
    have := nv_set 2 (l := Q) (p := i) (by rw [H.lq]; omega) 1
    rw [H.hq i (by omega)] at this
    omega
  have hvr : nv 2 R2 + 2 ^ i * nv 2 m = nv 2 R := by
    rw [nv_split (l := R2) (k := i) (by rw [h.l2]; omega), nv_split (l := R) (k := i) (by rw [H.lr]; omega), h.ht, Nat.add_assoc, ← Nat.mul_add, h1]
  refine ⟨⟨by simpa using H.lq, h.l2, H.dq.set (by decide) _, h.d2, by have := H.hs; omega, fun j hj => by rw [lget_set_ne (by omega)]; exact H.hq j (by omega), ?_, by omega⟩, hz2⟩
  rw [hvq, Nat.add_mul, ← H.hv]
  omega
end Hb
