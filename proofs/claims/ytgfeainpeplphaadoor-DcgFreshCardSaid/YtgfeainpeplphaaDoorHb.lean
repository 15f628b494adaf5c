/-
  Plain: what a grammar's body and a grammar rule become. No program in sight.
-/
import Derived.Test.YtgfeainpeplphaaDoorHa
namespace Ht
/-! ### makers -/
def atomT (s : List UInt8) : Tm := .mk 2 s [] 0 0 []
def varT (n : Int) : Tm := .mk 1 [] [] 0 n []
def cmpT (s : List UInt8) (as : List Tm) : Tm := .mk 5 s [] 0 0 as
def sComma : List UInt8 := [44]
def sArrow : List UInt8 := [45, 62]
def sSemi : List UInt8 := [59]
def sBar : List UInt8 := [124]
def sDot : List UInt8 := [46]
def sNot : List UInt8 := [92, 43]
def sCurly : List UInt8 := [123, 125]
def sNil : List UInt8 := [91, 93]
def sCut : List UInt8 := [33]
def sEq : List UInt8 := [61]
def sTrue : List UInt8 := [116, 114, 117, 101]
def sPhrase : List UInt8 := [112, 104, 114, 97, 115, 101]
def sRule : List UInt8 := [45, 45, 62]
def sNeck : List UInt8 := [58, 45]
def sType : List UInt8 := [116, 121, 112, 101, 95, 101, 114, 114, 111, 114]
def sCallable : List UInt8 := [99, 97, 108, 108, 97, 98, 108, 101]
def sList : List UInt8 := [108, 105, 115, 116]
def sDcgRule : List UInt8 := [100, 99, 103, 95, 114, 117, 108, 101]
def sRepr : List UInt8 := [114, 101, 112, 114, 101, 115, 101, 110, 116, 97, 116, 105, 111, 110, 95, 101, 114, 114, 111, 114]
def sArity : List UInt8 := [109, 97, 120, 95, 97, 114, 105, 116, 121]
def sRes : List UInt8 := [114, 101, 115, 111, 117, 114, 99, 101, 95, 101, 114, 114, 111, 114]
def sNodes : List UInt8 := [110, 111, 100, 101, 115]
def sInst : List UInt8 := [105, 110, 115, 116, 97, 110, 116, 105, 97, 116, 105, 111, 110, 95, 101, 114, 114, 111, 114]
def typedT (kind : List UInt8) (t : Tm) : Tm := cmpT sType [atomT kind, t]
def arityT : Tm := cmpT sRepr [atomT sArity]
def nodesT : Tm := cmpT sRes [atomT sNodes]
def eqT (f to : Tm) : Tm := cmpT sEq [f, to]
def isC (t : Tm) (s : List UInt8) (n : Nat) : Bool := decide (t.k = 5) && decide (t.n = s) && decide (t.as.length = n)
/-- a list's elements, and what stands at its end -/
def elems : Tm → List Tm × Tm
  | .mk k n m b v [x, y] => if k = 5 ∧ n = sDot then (x :: (elems y).1, (elems y).2) else ([], .mk k n m b v [x, y])
  | t => ([], t)
def isNil (t : Tm) : Bool := decide (t.k = 2) && decide (t.n = sNil)
def endT (l : List Tm) (e : Tm) : Tm := l.foldr (fun x r => cmpT sDot [x, r]) e
def putT (t f to : Tm) : Except Tm Tm := if 62 < t.as.length then .error arityT else .ok (cmpT t.n (t.as ++ [f, to]))
/-- what a body becomes -/
def mkB : Tm → Tm → Tm → Int → Except Tm (Tm × Int)
  | .mk k n m b v as, f, to, nx =>
    if k = 1 then .ok (cmpT sPhrase [.mk k n m b v as, f, to], nx)
    else if k = 5 then
      match as with
      | [x, y] =>
        if n = sComma ∨ n = sArrow then
          match mkB x f (varT nx) (nx + 1) with
          | .error e => .error e
          | .ok (a, n1) => match mkB y (varT nx) to n1 with
            | .error e => .error e
            | .ok (c, n2) => .ok (cmpT n [a, c], n2)
        else if n = sSemi ∨ n = sBar then
          match mkB x f to nx with
          | .error e => .error e
          | .ok (a, n1) => match mkB y f to n1 with
            | .error e => .error e
            | .ok (c, n2) => .ok (cmpT sSemi [a, c], n2)
        else if n = sDot then
          if isNil (elems (.mk k n m b v [x, y])).2 then .ok (eqT f (endT (elems (.mk k n m b v [x, y])).1 to), nx) else .error (typedT sList (.mk k n m b v [x, y]))
        else (putT (.mk k n m b v [x, y]) f to).map fun g => (g, nx)
      | [x] =>
        if n = sNot then
          match mkB x f (varT nx) (nx + 1) with
          | .error e => .error e
          | .ok (a, n1) => .ok (cmpT sComma [cmpT sNot [a], eqT f to], n1)
        else if n = sCurly then .ok (cmpT sComma [x, eqT f to], nx)
        else (putT (.mk k n m b v [x]) f to).map fun g => (g, nx)
      | as => (putT (.mk k n m b v as) f to).map fun g => (g, nx)
    else if k = 2 then
      if n = sCurly then .ok (cmpT sComma [atomT sTrue, eqT f to], nx)
      else if n = sCut then .ok (cmpT sComma [.mk k n m b v as, eqT f to], nx)
      else if n = sNil then .ok (eqT f to, nx)
      else (putT (.mk k n m b v as) f to).map fun g => (g, nx)
    else .error (typedT sCallable (.mk k n m b v as))
def whole (t : Tm) : Except Tm Tm := if 4000 < nodes t then .error nodesT else .ok t
def bodyT (t f to : Tm) (nx : Int) : Except Tm (Tm × Int) :=
  match mkB t f to nx with
  | .error e => .error e
  | .ok (g, n) => match whole g with
    | .error e => .error e
    | .ok g => .ok (g, n)
/-! ### variables -/
mutual
/-- a term's variables, behind others -/
def vars : Tm → List Int → List Int
  | .mk k _ _ _ v as, out => varss as (if k = 1 ∧ v ∉ out then out ++ [v] else out)
def varss : List Tm → List Int → List Int
  | [], out => out
  | a :: as, out => varss as (vars a out)
end
mutual
def HasV (x : Int) : Tm → Prop
  | .mk k _ _ _ v as => (k = 1 ∧ v = x) ∨ HasVs x as
def HasVs (x : Int) : List Tm → Prop
  | [] => False
  | a :: as => HasV x a ∨ HasVs x as
end
theorem hasVs_iff {x : Int} {as : List Tm} : HasVs x as ↔ ∃ a ∈ as, HasV x a := by
  induction as with
  | nil => simp [HasVs]
  | cons a as ih => simp [HasVs, ih]
theorem varss_mem : ∀ (as : List Tm), (∀ a ∈ as, ∀ out x, x ∈ vars a out ↔ x ∈ out ∨ HasV x a) → ∀ out x, x ∈ varss as out ↔ x ∈ out ∨ HasVs x as
  | [], _, out, x => by simp [varss, HasVs]
  | a :: as, h, out, x => by
    simp only [varss, HasVs]
    rw [varss_mem as (fun y hy => h y (by simp [hy])), h a (by simp), or_assoc]
theorem vars_mem (t : Tm) : ∀ out x, x ∈ vars t out ↔ x ∈ out ∨ HasV x t := by
  refine Tm.ind (p := fun t => ∀ out x, x ∈ vars t out ↔ x ∈ out ∨ HasV x t) (fun k n m b v as ih out x => ?_) t
  simp only [vars, HasV]
  rw [varss_mem as ih]
  by_cases hk : k = 1
  · by_cases hv : v ∈ out
    · rw [if_neg (fun h => h.2 hv)]
      constructor
      · rintro (h | h)
        · exact .inl h
        · exact .inr (.inr h)
      · rintro (h | ⟨_, rfl⟩ | h)
        · exact .inl h
        · exact .inl hv
        · exact .inr h
    · rw [if_pos ⟨hk, hv⟩, List.mem_append, List.mem_singleton]
      constructor
      · rintro ((h | rfl) | h)
        · exact .inl h
        · exact .inr (.inl ⟨hk, rfl⟩)
        · exact .inr (.inr h)
      · rintro (h | ⟨_, rfl⟩ | h)
        · exact .inl (.inl h)
        · exact .inl (.inr rfl)
        · exact .inr h
  · rw [if_neg (fun h => hk h.1)]
    constructor
    · rintro (h | h)
      · exact .inl h
      · exact .inr (.inr h)
    · rintro (h | ⟨h, _⟩ | h)
      · exact .inl h
      · exact absurd h hk
      · exact .inr h
theorem vars_len (t : Tm) : ∀ out, (vars t out).length ≤ out.length + sz t := by
  refine Tm.ind (p := fun t => ∀ out, (vars t out).length ≤ out.length + sz t) (fun k n m b v as ih out => ?_) t
  have key : ∀ (as : List Tm), (∀ a ∈ as, ∀ out, (vars a out).length ≤ out.length + sz a) → ∀ out, (varss as out).length ≤ out.length + szs as := by
    intro as
    induction as with
    | nil => intro _ out; simp [varss, szs]
    | cons a as ih =>
      intro h out
      simp only [varss, szs]
      have h1 := ih (fun x hx => h x (by simp [hx])) (vars a out)
      have h2 := h a (by simp) out
      omega
  simp only [vars, sz]
  have h1 := key as ih (if k = 1 ∧ v ∉ out then out ++ [v] else out)
  have h2 : (if k = 1 ∧ v ∉ out then out ++ [v] else out).length ≤ out.length + 1 := by split <;> simp
  omega
/-- one more than the greatest number of a variable -/
def above (t : Tm) : Int := (vars t []).foldl (fun n x => max n (x + 1)) 0
theorem foldl_max (l : List Int) : ∀ n : Int, n ≤ l.foldl (fun n x => max n (x + 1)) n ∧ (∀ x ∈ l, x + 1 ≤ l.foldl (fun n x => max n (x + 1)) n) ∧ (l.foldl (fun n x => max n (x + 1)) n = n ∨ ∃ x ∈ l, l.foldl (fun n x => max n (x + 1)) n = x + 1) := by
  induction l with
  | nil => intro n; simp
  | cons y l ih =>
    intro n
    simp only [List.foldl_cons]
    obtain ⟨h1, h2, h3⟩ := ih (max n (y + 1))
    refine ⟨by omega, fun x hx => ?_, ?_⟩
    · rcases List.mem_cons.1 hx with rfl | hx
      · omega
      · exact h2 x hx
    · rcases h3 with h3 | ⟨x, hx, h3⟩
      · rw [h3]
        by_cases h : n ≤ y + 1
        · exact .inr ⟨y, by simp, by omega⟩
        · exact .inl (by omega)
      · exact .inr ⟨x, by simp [hx], h3⟩
theorem above_gt {t : Tm} {x : Int} (h : HasV x t) : x < above t := by
  have := (foldl_max (vars t []) 0).2.1 x ((vars_mem t [] x).2 (.inr h))
  unfold above; omega
theorem above_nn (t : Tm) : 0 ≤ above t := (foldl_max (vars t []) 0).1
/-- what a rule becomes -/
def ruleT (t : Tm) : Except Tm Tm :=
  if isC t sRule 2 = false then .error (typedT sDcgRule t)
  else
    let h0 := t.as.getD 0 zeroT
    let pushed := isC h0 sComma 2
    let h := if pushed then h0.as.getD 0 zeroT else h0
    let p := h0.as.getD 1 zeroT
    if h.k = 1 then .error (atomT sInst)
    else if h.k = 3 ∨ h.k = 4 then .error (typedT sCallable h)
    else if pushed = true ∧ isNil (elems p).2 = false then .error (typedT sList p)
    else
      let n := above t
      match putT h (varT n) (varT (n + 1)) with
      | .error e => .error e
      | .ok hd =>
        if pushed then
          match mkB (t.as.getD 1 zeroT) (varT n) (varT (n + 2)) (n + 3) with
          | .error e => .error e
          | .ok (g, _) => whole (cmpT sNeck [hd, cmpT sComma [g, eqT (varT (n + 1)) (endT (elems p).1 (varT (n + 2)))]])
        else
          match mkB (t.as.getD 1 zeroT) (varT n) (varT (n + 1)) (n + 2) with
          | .error e => .error e
          | .ok (g, _) => whole (cmpT sNeck [hd, g])
end Ht
