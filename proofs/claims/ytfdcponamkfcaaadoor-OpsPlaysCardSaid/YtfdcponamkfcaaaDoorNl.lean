/-
  What holds of a table whatever was added; the laws' counting. No program in sight.
-/
import Derived.Test.YtfdcponamkfcaaaDoorNa
namespace Ho
/-- what holds of every table that began as the document says -/
structure Inv (L : List OpV) : Prop where
  uq : Uq L
  cl : ∀ x ∈ L, cls x.t ≠ 0
  comma : find L 2 [44] = some ⟨[44], 4, 1000⟩
  pr : ∀ x ∈ L, 1 ≤ x.p ∧ x.p ≤ 1200
  apart : ∀ n, ¬ ((find L 2 n).isSome = true ∧ (find L 3 n).isSome = true)
theorem cls_three (k : Int) : cls k ≤ 3 := by
  unfold cls
  split
  · omega
  · split
    · omega
    · split <;> omega
theorem code_zero {L : List OpV} {p k : Int} {n : List UInt8} (h : code L p k n = 0) : 0 ≤ p ∧ p ≤ 1200 ∧ cls k ≠ 0 ∧ n ≠ [44] ∧ (0 < p → ¬ (cls k = 2 ∧ (find L 3 n).isSome = true) ∧ ¬ (cls k = 3 ∧ (find L 2 n).isSome = true)) := by
  unfold code at h
  split at h
  · simp at h
  · rename_i h1
    split at h
    · simp at h
    · rename_i h2
      split at h
      · simp at h
      · rename_i h3
        split at h
        · simp at h
        · split at h
          · simp at h
          · split at h
            · simp at h
            · rename_i h6
              refine ⟨by omega, by omega, h2, h3, fun hp => ⟨fun e => h6 ⟨hp, .inl e⟩, fun e => h6 ⟨hp, .inr e⟩⟩⟩
theorem mem_del {L : List OpV} {c : Nat} {n : List UInt8} {x : OpV} (h : x ∈ del L c n) : x ∈ L := (List.mem_filter.1 h).1
theorem Inv.del {L : List OpV} (h : Inv L) {c : Nat} {n : List UInt8} (hn : n ≠ [44]) : Inv (del L c n) where
  uq := h.uq.del c n
  cl x hx := h.cl x (mem_del hx)
  comma := by rw [find_del_other (fun e => hn e.2.symm)]; exact h.comma
  pr x hx := h.pr x (mem_del hx)
  apart m := by
    rintro ⟨h1, h2⟩
    refine h.apart m ⟨?_, ?_⟩
    · by_cases e : (2 : Nat) = c ∧ m = n
      · rw [e.1, e.2, find_del_same] at h1; cases h1
      · rw [← find_del_other e]; exact h1
    · by_cases e : (3 : Nat) = c ∧ m = n
      · rw [e.1, e.2, find_del_same] at h2; cases h2
      · rw [← find_del_other e]; exact h2
theorem Inv.put {L : List OpV} (h : Inv L) {x : OpV} (hc : cls x.t ≠ 0) (hp : 1 ≤ x.p ∧ x.p ≤ 1200) (hn : x.n ≠ [44]) (h2 : ¬ (cls x.t = 2 ∧ (find L 3 x.n).isSome = true)) (h3 : ¬ (cls x.t = 3 ∧ (find L 2 x.n).isSome = true)) : Inv (put L x) where
  uq := h.uq.put x
  cl y hy := by
    rcases List.mem_append.1 hy with hy | hy
    · exact h.cl y (mem_del hy)
    · simp at hy; subst hy; exact hc
  comma := by rw [find_put_other (fun e => hn e.2.symm)]; exact h.comma
  pr y hy := by
    rcases List.mem_append.1 hy with hy | hy
    · exact h.pr y (mem_del hy)
    · simp at hy; subst hy; exact hp
  apart m := by
    rintro ⟨a, b⟩
    by_cases e : (2 : Nat) = cls x.t ∧ m = x.n
    · rw [e.2, find_put_other (by omega)] at b
      exact h2 ⟨e.1.symm, b⟩
    · rw [find_put_other e] at a
      by_cases f : (3 : Nat) = cls x.t ∧ m = x.n
      · rw [f.2] at a
        exact h3 ⟨f.1.symm, a⟩
      · rw [find_put_other f] at b
        exact h.apart m ⟨a, b⟩
theorem Inv.add {L : List OpV} (h : Inv L) (p k : Int) (n : List UInt8) : Inv (add L p k n) := by
  unfold Ho.add
  split
  · rename_i hc
    obtain ⟨h1, h2, h3, h4, h5⟩ := code_zero hc
    unfold after
    split
    · rename_i hp
      exact h.put (x := ⟨n, k, p⟩) h3 ⟨by show 1 ≤ p; omega, h2⟩ h4 (h5 hp).1 (h5 hp).2
    · exact h.del h4
  · exact h
theorem Inv.ne {L : List OpV} (h : Inv L) : L ≠ [] := fun e => by
  have := h.comma
  rw [e] at this; cases this
theorem add_len (L : List OpV) (p k : Int) (n : List UInt8) : (add L p k n).length ≤ L.length + 1 := by
  have h := List.length_filter_le (fun x => !isK (cls k) n x) L
  unfold add
  split
  · unfold after
    split
    · unfold put del; rw [List.length_append]; simp at h ⊢; exact h
    · unfold del; omega
  · omega
/-! ### counting -/
def cnt (x : OpV) (l : List OpV) : Nat := l.countP (fun y => decide (y = x))
/-- how many pairs of equals two lists have -/
def pairs : List OpV → List OpV → Nat
  | [], _ => 0
  | y :: l, m => cnt y m + pairs l m
theorem cnt_snoc (x y : OpV) (l : List OpV) : cnt x (l ++ [y]) = cnt x l + if y = x then 1 else 0 := by
  unfold cnt
  rw [List.countP_append]
  by_cases h : y = x <;> simp [h]
theorem pairs_snoc (l m : List OpV) (y : OpV) : pairs (l ++ [y]) m = pairs l m + cnt y m := by
  induction l with
  | nil => simp [pairs]
  | cons x l ih => simp only [List.cons_append, pairs, ih]; omega
theorem cnt_le (x : OpV) (l : List OpV) : cnt x l ≤ l.length := List.countP_le_length
theorem pairs_le (l m : List OpV) : pairs l m ≤ l.length * m.length := by
  induction l with
  | nil => simp [pairs]
  | cons x l ih =>
    have := cnt_le x m
    simp only [pairs, List.length_cons, Nat.succ_mul]
    omega
theorem pairs_le_one {m : List OpV} (h : m.Nodup) (l : List OpV) (hc : ∀ x, cnt x m ≤ 1) : pairs l m ≤ l.length := by
  induction l with
  | nil => simp [pairs]
  | cons x l ih =>
    have := hc x
    simp only [pairs, List.length_cons]
    omega
theorem cnt_perm {l m : List OpV} (h : l.Perm m) (x : OpV) : cnt x l = cnt x m := h.countP_eq _
theorem cnt_nodup {m : List OpV} (h : m.Nodup) (x : OpV) : cnt x m = if x ∈ m then 1 else 0 := by
  induction m with
  | nil => rfl
  | cons y m ih =>
    have h2 := List.nodup_cons.1 h
    unfold cnt at *
    by_cases e : y = x
    · subst e
      have h3 := ih h2.2
      rw [if_neg h2.1] at h3
      rw [List.countP_cons_of_pos (by simp), h3, if_pos (List.mem_cons_self ..)]
    · rw [List.countP_cons_of_neg (by simpa using e), ih h2.2]
      by_cases f : x ∈ m
      · rw [if_pos f, if_pos (List.mem_cons_of_mem _ f)]
      · rw [if_neg f, if_neg (fun g => (List.mem_cons.1 g).elim (fun g => e g.symm) f)]
theorem cnt_le_one {m : List OpV} (h : m.Nodup) (x : OpV) : cnt x m ≤ 1 := by
  rw [cnt_nodup h]; split <;> omega
theorem pairs_count {m : List OpV} (h : m.Nodup) (l : List OpV) : pairs l m = l.countP (fun y => decide (y ∈ m)) := by
  induction l with
  | nil => rfl
  | cons x l ih =>
    unfold pairs
    rw [ih, cnt_nodup h]
    by_cases e : x ∈ m
    · rw [if_pos e, List.countP_cons_of_pos (by simpa using e)]; omega
    · rw [if_neg e, List.countP_cons_of_neg (by simpa using e)]; omega
theorem Uq.nodup {L : List OpV} (h : Uq L) : L.Nodup := List.Pairwise.imp (fun {x y} h e => h ⟨by rw [e], by rw [e]⟩) h
theorem del_len {L : List OpV} (h : Uq L) (c : Nat) (n : List UInt8) : L.length ≤ (del L c n).length + 1 := by
  induction L with
  | nil => simp
  | cons x L ih =>
    have h2 := List.pairwise_cons.1 h
    unfold del
    by_cases e : isK c n x = true
    · have h3 : ∀ y ∈ L, (!isK c n y) = true := fun y hy => by
        rw [Bool.not_eq_true', Bool.eq_false_iff]
        intro f
        have a := isK_iff.1 e
        have b := isK_iff.1 f
        exact h2.1 y hy ⟨a.1.trans b.1.symm, a.2.trans b.2.symm⟩
      rw [List.filter_cons_of_neg (by simp [e]), List.filter_eq_self.2 h3, List.length_cons]
      omega
    · rw [List.filter_cons_of_pos (by simpa using e), List.length_cons, List.length_cons]
      have := ih h2.2
      unfold del at this
      omega
/-- the law OpsAdds -/
theorem adds_law {L : List OpV} (h : Inv L) (x : OpV) :
    let L' := add L x.p x.t x.n
    let now := srt L'
    let was := srt L
    (code L x.p x.t x.n ≠ 0 → now.length = was.length ∧ pairs now was = was.length) ∧
    (code L x.p x.t x.n = 0 → x.p = 0 → cnt x now = 0 ∧ pairs now was = now.length ∧ was.length ≤ now.length + 1) ∧
    (code L x.p x.t x.n = 0 → x.p ≠ 0 → cnt x now = 1 ∧ was.length ≤ pairs now was + 1 ∧ (now.length = was.length ∨ now.length = was.length + 1)) := by
  intro L' now was
  have hw : was.Nodup := (srt_perm L).nodup_iff.2 h.uq.nodup
  have hm : ∀ y, y ∈ was ↔ y ∈ L := fun y => (srt_perm L).mem_iff
  have hp : pairs now was = L'.countP (fun y => decide (y ∈ L)) := by
    rw [pairs_count hw, (srt_perm L').countP_eq]
    exact List.countP_congr (fun y _ => by simp [hm y])
  have hl : was.length = L.length := (srt_perm L).length_eq
  have hl' : now.length = L'.length := (srt_perm L').length_eq
  have hc' : cnt x now = cnt x L' := cnt_perm (srt_perm L') x
  have full : ∀ M : List OpV, (∀ y ∈ M, y ∈ L) → M.countP (fun y => decide (y ∈ L)) = M.length := fun M hM => List.countP_eq_length.2 (fun y hy => by simpa using hM y hy)
  refine ⟨fun hc => ?_, fun hc h0 => ?_, fun hc h0 => ?_⟩
  · have e : L' = L := by show add L x.p x.t x.n = L; unfold add; rw [if_neg hc]
    rw [hp, hl, hl', e, full L (fun y hy => hy)]
    exact ⟨rfl, rfl⟩
  · have e : L' = del L (cls x.t) x.n := by show add L x.p x.t x.n = _; unfold add after; rw [if_pos hc, if_neg (by omega)]
    have hx : x ∉ L' := fun hx => by
      rw [e] at hx
      have := (h.pr x (mem_del hx)).1
      omega
    have hd := del_len h.uq (cls x.t) x.n
    rw [hc', hp, hl, hl', full L' (fun y hy => by rw [e] at hy; exact mem_del hy)]
    refine ⟨?_, rfl, by rw [e]; exact hd⟩
    unfold cnt
    exact List.countP_eq_zero.2 (fun y hy => by simp; exact fun f => hx (f ▸ hy))
  · obtain ⟨p0, p1, _, _, _⟩ := code_zero hc
    have e : L' = del L (cls x.t) x.n ++ [x] := by show add L x.p x.t x.n = _; unfold add after; rw [if_pos hc, if_pos (by omega)]; rfl
    have hd := del_len h.uq (cls x.t) x.n
    have hle : (del L (cls x.t) x.n).length ≤ L.length := List.length_filter_le _ _
    have hx : x ∉ del L (cls x.t) x.n := fun hx => by
      have := (List.mem_filter.1 hx).2
      rw [Bool.not_eq_true', Bool.eq_false_iff] at this
      exact this (isK_iff.2 ⟨rfl, rfl⟩)
    rw [hc', hp, hl, hl', e]
    refine ⟨?_, ?_, ?_⟩
    · rw [cnt_snoc, if_pos rfl]
      have : cnt x (del L (cls x.t) x.n) = 0 := List.countP_eq_zero.2 (fun y hy => by simp; exact fun f => hx (f ▸ hy))
      omega
    · rw [List.countP_append, full _ (fun y hy => mem_del hy)]
      omega
    · rw [List.length_append, List.length_singleton]
      omega
end Ho
