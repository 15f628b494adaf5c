/-
  Tables of operators, as lists: what the package ops keeps in three maps, and its document's answer in a list. No program in sight.
-/
namespace Ho
/-- an operator: the bytes of its name, its type, its priority -/
structure OpV where
  n : List UInt8
  t : Int
  p : Int
deriving DecidableEq
/-- a type's class: 1 prefix, 2 infix, 3 postfix, 0 none -/
def cls (t : Int) : Nat := if t = 1 ∨ t = 2 then 1 else if t = 3 ∨ t = 4 ∨ t = 5 then 2 else if t = 6 ∨ t = 7 then 3 else 0
def isK (c : Nat) (n : List UInt8) (x : OpV) : Bool := x.n == n && cls x.t == c
def find (L : List OpV) (c : Nat) (n : List UInt8) : Option OpV := L.find? (isK c n)
def del (L : List OpV) (c : Nat) (n : List UInt8) : List OpV := L.filter (fun x => !isK c n x)
def put (L : List OpV) (x : OpV) : List OpV := del L (cls x.t) x.n ++ [x]
theorem isK_iff {c : Nat} {n : List UInt8} {x : OpV} : isK c n x = true ↔ x.n = n ∧ cls x.t = c := by simp [isK]
theorem find_filter {P Q : OpV → Bool} (h : ∀ x, P x = true → Q x = true) : ∀ L : List OpV, (L.filter Q).find? P = L.find? P
  | [] => rfl
  | x :: L => by
    by_cases hq : Q x = true
    · rw [List.filter_cons_of_pos hq]
      by_cases hp : P x = true
      · rw [List.find?_cons_of_pos hp, List.find?_cons_of_pos hp]
      · rw [List.find?_cons_of_neg hp, List.find?_cons_of_neg hp, find_filter h L]
    · have hp : ¬ P x = true := fun e => hq (h x e)
      rw [List.filter_cons_of_neg hq, List.find?_cons_of_neg hp, find_filter h L]
theorem find_del_same (L : List OpV) (c : Nat) (n : List UInt8) : find (del L c n) c n = none := by
  unfold find del
  rw [List.find?_eq_none]
  intro x hx
  have := (List.mem_filter.1 hx).2
  simpa using this
theorem find_del_other {L : List OpV} {c c' : Nat} {n n' : List UInt8} (h : ¬ (c' = c ∧ n' = n)) : find (del L c n) c' n' = find L c' n' := by
  unfold find del
  refine find_filter (fun x hx => ?_) L
  have h1 := isK_iff.1 hx
  simp only [Bool.not_eq_true', Bool.eq_false_iff, ne_eq, isK_iff]
  rintro ⟨h2, h3⟩
  exact h ⟨h1.2.symm.trans h3, h1.1.symm.trans h2⟩
theorem find_append (L M : List OpV) (c : Nat) (n : List UInt8) : find (L ++ M) c n = (find L c n).or (find M c n) := by
  unfold find; rw [List.find?_append]
theorem find_put_same (L : List OpV) (x : OpV) : find (put L x) (cls x.t) x.n = some x := by
  rw [put, find_append, find_del_same, Option.none_or]
  unfold find
  rw [List.find?_cons_of_pos (isK_iff.2 ⟨rfl, rfl⟩)]
theorem find_put_other {L : List OpV} {x : OpV} {c : Nat} {n : List UInt8} (h : ¬ (c = cls x.t ∧ n = x.n)) : find (put L x) c n = find L c n := by
  rw [put, find_append, find_del_other h]
  have : find [x] c n = none := by
    unfold find
    rw [List.find?_cons_of_neg (by rw [isK_iff]; exact fun e => h ⟨e.2.symm, e.1.symm⟩)]
    rfl
  rw [this, Option.or_none]
theorem find_some {L : List OpV} {c : Nat} {n : List UInt8} {x : OpV} (h : find L c n = some x) : x ∈ L ∧ x.n = n ∧ cls x.t = c :=
  ⟨List.mem_of_find?_eq_some h, isK_iff.1 (List.find?_some h)⟩
/-- no name twice in a class -/
def Uq (L : List OpV) : Prop := L.Pairwise fun x y => ¬ (x.n = y.n ∧ cls x.t = cls y.t)
theorem Uq.del {L : List OpV} (h : Uq L) (c : Nat) (n : List UInt8) : Uq (del L c n) := List.Pairwise.filter _ h
theorem Uq.put {L : List OpV} (h : Uq L) (x : OpV) : Uq (put L x) := by
  refine List.pairwise_append.2 ⟨h.del _ _, List.pairwise_singleton _ _, fun y hy z hz => ?_⟩
  obtain rfl : z = x := by simpa using hz
  intro e
  have := (List.mem_filter.1 hy).2
  rw [Bool.not_eq_true', Bool.eq_false_iff] at this
  exact this (isK_iff.2 e)
theorem Uq.find {L : List OpV} (h : Uq L) {x : OpV} (hx : x ∈ L) : find L (cls x.t) x.n = some x := by
  induction L with
  | nil => cases hx
  | cons y L ih =>
    have h2 := List.pairwise_cons.1 h
    unfold Ho.find
    rcases List.mem_cons.1 hx with rfl | hx
    · rw [List.find?_cons_of_pos (isK_iff.2 ⟨rfl, rfl⟩)]
    · rw [List.find?_cons_of_neg (by rw [isK_iff]; exact h2.1 x hx)]
      exact ih h2.2 hx
/-- what Add answers -/
def code (L : List OpV) (p k : Int) (n : List UInt8) : Int :=
  if p < 0 ∨ 1200 < p then 40
  else if cls k = 0 then 41
  else if n = [44] then 42
  else if n = [91, 93] ∨ n = [123, 125] then 43
  else if n = [124] ∧ ¬ (cls k = 2 ∧ (p = 0 ∨ 1000 < p)) then 43
  else if 0 < p ∧ ((cls k = 2 ∧ (find L 3 n).isSome) ∨ (cls k = 3 ∧ (find L 2 n).isSome)) then 43
  else 0
/-- the table behind an Add that was taken -/
def after (L : List OpV) (p k : Int) (n : List UInt8) : List OpV := if 0 < p then put L ⟨n, k, p⟩ else del L (cls k) n
def add (L : List OpV) (p k : Int) (n : List UInt8) : List OpV := if code L p k n = 0 then after L p k n else L
theorem Uq.add {L : List OpV} (h : Uq L) (p k : Int) (n : List UInt8) : Uq (add L p k n) := by
  unfold Ho.add after
  split
  · split
    · exact h.put _
    · exact h.del _ _
  · exact h
end Ho
