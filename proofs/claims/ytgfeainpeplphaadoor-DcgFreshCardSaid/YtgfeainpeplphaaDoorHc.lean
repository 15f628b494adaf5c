/-
  Plain: laws of what a grammar's body becomes: its variables, its numbers, other terms in the lists' places. No program in sight.
-/
import Derived.Test.YtgfeainpeplphaaDoorHb
namespace Ht
/-- what a body becomes, as a relation -/
inductive Mk : Tm → Tm → Tm → Int → Tm → Int → Prop
  | phrase (t f to : Tm) (nx : Int) (h : t.k = 1) : Mk t f to nx (cmpT sPhrase [t, f, to]) nx
  | seq (n m : List UInt8) (b v : Int) (x y f to : Tm) (nx : Int) (a c : Tm) (n1 n2 : Int) (h : n = sComma ∨ n = sArrow) (ha : Mk x f (varT nx) (nx + 1) a n1) (hc : Mk y (varT nx) to n1 c n2) : Mk (.mk 5 n m b v [x, y]) f to nx (cmpT n [a, c]) n2
  | alt (n m : List UInt8) (b v : Int) (x y f to : Tm) (nx : Int) (a c : Tm) (n1 n2 : Int) (ha : Mk x f to nx a n1) (hc : Mk y f to n1 c n2) : Mk (.mk 5 n m b v [x, y]) f to nx (cmpT sSemi [a, c]) n2
  | lst (t f to : Tm) (nx : Int) (h : isNil (elems t).2 = true) : Mk t f to nx (eqT f (endT (elems t).1 to)) nx
  | neg (m : List UInt8) (b v : Int) (x f to : Tm) (nx : Int) (a : Tm) (n1 : Int) (ha : Mk x f (varT nx) (nx + 1) a n1) : Mk (.mk 5 sNot m b v [x]) f to nx (cmpT sComma [cmpT sNot [a], eqT f to]) n1
  | curly (n m : List UInt8) (b v : Int) (x f to : Tm) (nx : Int) : Mk (.mk 5 n m b v [x]) f to nx (cmpT sComma [x, eqT f to]) nx
  | tru (t f to : Tm) (nx : Int) : Mk t f to nx (cmpT sComma [atomT sTrue, eqT f to]) nx
  | cut (t f to : Tm) (nx : Int) : Mk t f to nx (cmpT sComma [t, eqT f to]) nx
  | nil (t f to : Tm) (nx : Int) : Mk t f to nx (eqT f to) nx
  | put (t f to : Tm) (nx : Int) (h : t.as.length ≤ 62) : Mk t f to nx (cmpT t.n (t.as ++ [f, to])) nx
theorem put_ok {t f to g : Tm} {nx n' : Int} (h : (putT t f to).map (fun g => (g, nx)) = .ok (g, n')) : Mk t f to nx g n' := by
  unfold putT at h
  split at h
  · cases h
  · cases h
    exact .put t f to nx (by omega)
theorem mkB_mk (t : Tm) : ∀ f to nx g n', mkB t f to nx = .ok (g, n') → Mk t f to nx g n' := by
  refine Tm.ind (p := fun t => ∀ f to nx g n', mkB t f to nx = .ok (g, n') → Mk t f to nx g n') (fun k n m b v as ih f to nx g n' h => ?_) t
  rw [mkB.eq_def] at h
  dsimp only at h
  split at h
  · next hk => cases h; exact .phrase _ _ _ _ hk
  split at h
  · next hk5 =>
    subst hk5
    split at h
    · next x y =>
      split at h
      · next hn =>
        split at h
        · cases h
        · next a n1 ha =>
          split at h
          · cases h
          · next c n2 hc =>
            cases h
            exact .seq _ _ _ _ _ _ _ _ _ _ _ _ _ hn (ih x (by simp) _ _ _ _ _ ha) (ih y (by simp) _ _ _ _ _ hc)
      · split at h
        · split at h
          · cases h
          · next a n1 ha =>
            split at h
            · cases h
            · next c n2 hc =>
              cases h
              exact .alt _ _ _ _ _ _ _ _ _ _ _ _ _ (ih x (by simp) _ _ _ _ _ ha) (ih y (by simp) _ _ _ _ _ hc)
        · split at h
          · split at h
            · next hl => cases h; exact .lst _ _ _ _ hl
            · cases h
          · exact put_ok h
    · next x =>
      split at h
      · next hn =>
        subst hn
        split at h
        · cases h
        · next a n1 ha =>
          cases h
          exact .neg _ _ _ _ _ _ _ _ _ (ih x (by simp) _ _ _ _ _ ha)
      · split at h
        · cases h; exact .curly _ _ _ _ _ _ _ _
        · exact put_ok h
    · exact put_ok h
  · split at h
    · split at h
      · cases h; exact .tru _ _ _ _
      · split at h
        · cases h; exact .cut _ _ _ _
        · split at h
          · cases h; exact .nil _ _ _ _
          · exact put_ok h
    · cases h
theorem Mk.next {t f to g : Tm} {nx n' : Int} (h : Mk t f to nx g n') : nx ≤ n' ∧ n' + 1 ≤ nx + sz t := by
  induction h with
  | seq n m b v x y f to nx a c n1 n2 h ha hc iha ihc => simp only [sz, szs]; omega
  | alt n m b v x y f to nx a c n1 n2 ha hc iha ihc => simp only [sz, szs]; omega
  | neg m b v x f to nx a n1 ha iha => simp only [sz, szs]; omega
  | phrase t f to nx h => have := sz_pos t; omega
  | lst t f to nx h => have := sz_pos t; omega
  | curly n m b v x f to nx => simp only [sz]; omega
  | tru t f to nx => have := sz_pos t; omega
  | cut t f to nx => have := sz_pos t; omega
  | nil t f to nx => have := sz_pos t; omega
  | put t f to nx h => have := sz_pos t; omega
/-! ### variables of what was made -/
theorem hasV_cmp {x : Int} {s : List UInt8} {as : List Tm} : HasV x (cmpT s as) ↔ ∃ a ∈ as, HasV x a := by
  unfold cmpT
  rw [HasV, hasVs_iff]
  simp
theorem hasV_var {x n : Int} : HasV x (varT n) ↔ x = n := by
  unfold varT
  simp [HasV, HasVs, eq_comm]
theorem hasV_atom {x : Int} {s : List UInt8} : ¬ HasV x (atomT s) := by
  unfold atomT
  simp [HasV, HasVs]
theorem hasV_eq {x : Int} {f to : Tm} : HasV x (eqT f to) ↔ HasV x f ∨ HasV x to := by
  unfold eqT; rw [hasV_cmp]; simp
theorem hasV_arg {x : Int} {t a : Tm} (ha : a ∈ t.as) (h : HasV x a) : HasV x t := by
  obtain ⟨k, n, m, b, v, as⟩ := t
  rw [HasV, hasVs_iff]
  exact .inr ⟨a, ha, h⟩
theorem hasV_end {x : Int} {l : List Tm} {e : Tm} : HasV x (endT l e) ↔ (∃ a ∈ l, HasV x a) ∨ HasV x e := by
  induction l with
  | nil => simp [endT]
  | cons a l ih =>
    have e1 : endT (a :: l) e = cmpT sDot [a, endT l e] := rfl
    rw [e1, hasV_cmp]
    simp only [List.mem_cons, List.not_mem_nil, or_false, exists_eq_or_imp, exists_eq_left, ih, or_assoc]
theorem elems_eq (t : Tm) : elems t = ([], t) ∨ ∃ n m b v x y, t = .mk 5 n m b v [x, y] ∧ elems t = (x :: (elems y).1, (elems y).2) := by
  rw [elems.eq_def]
  split
  · split
    · next h => obtain ⟨rfl, _⟩ := h; exact .inr ⟨_, _, _, _, _, _, rfl, rfl⟩
    · exact .inl rfl
  · exact .inl rfl
theorem elems_has (t : Tm) : ∀ x a, a ∈ (elems t).1 → HasV x a → HasV x t := by
  refine Tm.ind (p := fun t => ∀ x a, a ∈ (elems t).1 → HasV x a → HasV x t) (fun k n m b v as ih x a ha hx => ?_) t
  rcases elems_eq (.mk k n m b v as) with h | ⟨n', m', b', v', y, z, e, h⟩
  · rw [h] at ha; cases ha
  · rw [h] at ha
    cases e
    rcases List.mem_cons.1 ha with rfl | ha
    · exact hasV_arg (a := a) (by simp [Tm.as]) hx
    · exact hasV_arg (a := z) (by simp [Tm.as]) (ih z (by simp) x a ha hx)
theorem Mk.has {t f to g : Tm} {nx n' : Int} (h : Mk t f to nx g n') : (∀ x, HasV x f → HasV x g) ∧ (∀ x, HasV x to → HasV x g) ∧ (∀ x, nx ≤ x → x < n' → HasV x g) ∧ (∀ x, HasV x g → HasV x t ∨ HasV x f ∨ HasV x to ∨ (nx ≤ x ∧ x < n')) := by
  induction h with
  | phrase t f to nx h => 
    simp only [hasV_cmp, List.mem_cons, List.not_mem_nil, or_false, exists_eq_or_imp, exists_eq_left]
    exact ⟨fun x h => .inr (.inl h), fun x h => .inr (.inr h), fun x _ _ => by omega, fun x h => by rcases h with h | h | h <;> simp [h]⟩
  | seq n m b v x y f to nx a c n1 n2 h ha hc iha ihc =>
    obtain ⟨a1, a2, a3, a4⟩ := iha
    obtain ⟨c1, c2, c3, c4⟩ := ihc
    have na := ha.next
    have nc := hc.next
    simp only [hasV_cmp, hasV_var, List.mem_cons, List.not_mem_nil, or_false, exists_eq_or_imp, exists_eq_left] at *
    refine ⟨fun z h => .inl (a1 z h), fun z h => .inr (c2 z h), fun z h1 h2 => ?_, fun z h => ?_⟩
    · by_cases e : z = nx
      · exact .inl (a2 z e)
      · by_cases e2 : z < n1
        · exact .inl (a3 z (by omega) e2)
        · exact .inr (c3 z (by omega) h2)
    · rcases h with h | h
      · rcases a4 z h with h | h | h | h
        · exact .inl (hasV_arg (a := x) (by simp [Tm.as]) h)
        · exact .inr (.inl h)
        · exact .inr (.inr (.inr (by omega)))
        · exact .inr (.inr (.inr (by omega)))
      · rcases c4 z h with h | h | h | h
        · exact .inl (hasV_arg (a := y) (by simp [Tm.as]) h)
        · exact .inr (.inr (.inr (by omega)))
        · exact .inr (.inr (.inl h))
        · exact .inr (.inr (.inr (by omega)))
  | alt n m b v x y f to nx a c n1 n2 ha hc iha ihc =>
    obtain ⟨a1, a2, a3, a4⟩ := iha
    obtain ⟨c1, c2, c3, c4⟩ := ihc
    have na := ha.next
    have nc := hc.next
    simp only [hasV_cmp, List.mem_cons, List.not_mem_nil, or_false, exists_eq_or_imp, exists_eq_left] at *
    refine ⟨fun z h => .inl (a1 z h), fun z h => .inr (c2 z h), fun z h1 h2 => ?_, fun z h => ?_⟩
    · by_cases e2 : z < n1
      · exact .inl (a3 z h1 e2)
      · exact .inr (c3 z (by omega) h2)
    · rcases h with h | h
      · rcases a4 z h with h | h | h | h
        · exact .inl (hasV_arg (a := x) (by simp [Tm.as]) h)
        · exact .inr (.inl h)
        · exact .inr (.inr (.inl h))
        · exact .inr (.inr (.inr (by omega)))
      · rcases c4 z h with h | h | h | h
        · exact .inl (hasV_arg (a := y) (by simp [Tm.as]) h)
        · exact .inr (.inl h)
        · exact .inr (.inr (.inl h))
        · exact .inr (.inr (.inr (by omega)))
  | lst t f to nx h =>
    simp only [hasV_eq, hasV_end]
    refine ⟨fun x h => .inl h, fun x h => .inr (.inr h), fun x _ _ => by omega, fun x h => ?_⟩
    rcases h with h | ⟨a, ha, h⟩ | h
    · simp [h]
    · exact .inl (elems_has t x a ha h)
    · simp [h]
  | neg m b v x f to nx a n1 ha iha =>
    obtain ⟨a1, a2, a3, a4⟩ := iha
    have na := ha.next
    simp only [hasV_cmp, hasV_eq, hasV_var, List.mem_cons, List.not_mem_nil, or_false, exists_eq_or_imp, exists_eq_left] at *
    refine ⟨fun z h => .inr (.inl h), fun z h => .inr (.inr h), fun z h1 h2 => ?_, fun z h => ?_⟩
    · by_cases e : z = nx
      · exact .inl (a2 z e)
      · exact .inl (a3 z (by omega) h2)
    · rcases h with h | h | h
      · rcases a4 z h with h | h | h | h
        · exact .inl (hasV_arg (a := x) (by simp [Tm.as]) h)
        · exact .inr (.inl h)
        · exact .inr (.inr (.inr (by omega)))
        · exact .inr (.inr (.inr (by omega)))
      · exact .inr (.inl h)
      · exact .inr (.inr (.inl h))
  | curly n m b v x f to nx =>
    simp only [hasV_cmp, hasV_eq, List.mem_cons, List.not_mem_nil, or_false, exists_eq_or_imp, exists_eq_left]
    refine ⟨fun z h => .inr (.inl h), fun z h => .inr (.inr h), fun z _ _ => by omega, fun z h => ?_⟩
    rcases h with h | h | h
    · exact .inl (hasV_arg (a := x) (by simp [Tm.as]) h)
    · simp [h]
    · simp [h]
  | tru t f to nx =>
    simp only [hasV_cmp, hasV_eq, List.mem_cons, List.not_mem_nil, or_false, exists_eq_or_imp, exists_eq_left, hasV_atom, false_or]
    exact ⟨fun z h => .inl h, fun z h => .inr h, fun z _ _ => by omega, fun z h => by rcases h with h | h <;> simp [h]⟩
  | cut t f to nx =>
    simp only [hasV_cmp, hasV_eq, List.mem_cons, List.not_mem_nil, or_false, exists_eq_or_imp, exists_eq_left]
    exact ⟨fun z h => .inr (.inl h), fun z h => .inr (.inr h), fun z _ _ => by omega, fun z h => by rcases h with h | h | h <;> simp [h]⟩
  | nil t f to nx =>
    simp only [hasV_eq]
    exact ⟨fun z h => .inl h, fun z h => .inr h, fun z _ _ => by omega, fun z h => by rcases h with h | h <;> simp [h]⟩
  | put t f to nx h =>
    simp only [hasV_cmp, List.mem_append, List.mem_cons, List.not_mem_nil, or_false]
    refine ⟨fun z h => ⟨f, .inr (.inl rfl), h⟩, fun z h => ⟨to, .inr (.inr rfl), h⟩, fun z _ _ => by omega, ?_⟩
    rintro z ⟨a, ha | rfl | rfl, h⟩
    · exact .inl (hasV_arg ha h)
    · simp [h]
    · simp [h]
/-! ### other terms in the places of variables -/
mutual
def inst (σ : Int → Option Tm) : Tm → Tm
  | .mk k n m b v as => if k = 1 then (match σ v with | some u => u | none => .mk k n m b v as) else .mk k n m b v (insts σ as)
def insts (σ : Int → Option Tm) : List Tm → List Tm
  | [] => []
  | a :: as => inst σ a :: insts σ as
end
theorem insts_map (σ : Int → Option Tm) (as : List Tm) : insts σ as = as.map (inst σ) := by
  induction as with
  | nil => rfl
  | cons a as ih => rw [insts, ih]; rfl
theorem inst_id {σ : Int → Option Tm} (t : Tm) : (∀ x, HasV x t → σ x = none) → inst σ t = t := by
  refine Tm.ind (p := fun t => (∀ x, HasV x t → σ x = none) → inst σ t = t) (fun k n m b v as ih h => ?_) t
  rw [inst]
  by_cases hk : k = 1
  · rw [if_pos hk, h v (by rw [HasV]; exact .inl ⟨hk, rfl⟩)]
  · rw [if_neg hk, insts_map]
    congr 1
    refine (List.map_congr_left (g := id) (fun a ha => ?_)).trans (List.map_id _)
    exact ih a ha (fun x hx => h x (hasV_arg (t := .mk k n m b v as) ha hx))
theorem inst_cmp (σ : Int → Option Tm) (s : List UInt8) (as : List Tm) : inst σ (cmpT s as) = cmpT s (as.map (inst σ)) := by
  unfold cmpT
  rw [inst, if_neg (by decide), insts_map]
theorem inst_var {σ : Int → Option Tm} {n : Int} (h : σ n = none) : inst σ (varT n) = varT n := by
  unfold varT; rw [inst, if_pos rfl, h]
theorem inst_end {σ : Int → Option Tm} {l : List Tm} (e : Tm) (h : ∀ a ∈ l, inst σ a = a) : inst σ (endT l e) = endT l (inst σ e) := by
  induction l with
  | nil => rfl
  | cons a l ih =>
    have e1 : ∀ e, endT (a :: l) e = cmpT sDot [a, endT l e] := fun _ => rfl
    rw [e1, e1, inst_cmp]
    simp [h a (by simp), ih (fun x hx => h x (by simp [hx]))]
theorem inst_eq (σ : Int → Option Tm) (f to : Tm) : inst σ (eqT f to) = eqT (inst σ f) (inst σ to) := by
  unfold eqT; rw [inst_cmp]; rfl
theorem put_inst {σ : Int → Option Tm} {t f to : Tm} {nx : Int} (h : ∀ a ∈ t.as, inst σ a = a) :
    (putT t (inst σ f) (inst σ to)).map (fun g => (g, nx)) = ((putT t f to).map (fun g => (g, nx))).map (fun p => (inst σ p.1, p.2)) := by
  unfold putT
  split
  · rfl
  · simp only [Except.map]
    rw [inst_cmp, List.map_append, List.map_congr_left (g := id) h, List.map_id]
    rfl
def outMap (σ : Int → Option Tm) (r : Except Tm (Tm × Int)) : Except Tm (Tm × Int) := r.map (fun p => (inst σ p.1, p.2))
theorem mkB_inst {σ : Int → Option Tm} (t : Tm) : ∀ f to nx, (∀ x, HasV x t → σ x = none) → (∀ x, nx ≤ x → σ x = none) → mkB t (inst σ f) (inst σ to) nx = outMap σ (mkB t f to nx) := by
  refine Tm.ind (p := fun t => ∀ f to nx, (∀ x, HasV x t → σ x = none) → (∀ x, nx ≤ x → σ x = none) → mkB t (inst σ f) (inst σ to) nx = outMap σ (mkB t f to nx)) (fun k n m b v as ih f to nx h1 h2 => ?_) t
  have hid := inst_id _ h1
  have hids : ∀ a ∈ as, inst σ a = a := fun a ha => inst_id a (fun x hx => h1 x (hasV_arg (t := .mk k n m b v as) ha hx))
  have hsub : ∀ a ∈ as, ∀ x, HasV x a → σ x = none := fun a ha x hx => h1 x (hasV_arg (t := .mk k n m b v as) ha hx)
  rw [mkB.eq_def, mkB.eq_def]
  dsimp only
  by_cases hk1 : k = 1
  · rw [if_pos hk1, if_pos hk1]
    show _ = Except.ok (inst σ (cmpT _ _), nx)
    rw [inst_cmp]
    simp only [List.map_cons, List.map_nil, hid]
  rw [if_neg hk1, if_neg hk1]
  by_cases hk5 : k = 5
  · rw [if_pos hk5, if_pos hk5]
    subst hk5
    split
    · next x y =>
      by_cases hn : n = sComma ∨ n = sArrow
      · rw [if_pos hn, if_pos hn]
        have ha := ih x (by simp) f (varT nx) (nx + 1) (hsub x (by simp)) (fun z hz => h2 z (by omega))
        rw [inst_var (h2 nx (Int.le_refl _))] at ha
        rw [ha]
        cases hA : mkB x f (varT nx) (nx + 1) with
        | error e => rfl
        | ok p =>
          obtain ⟨a, n1⟩ := p
          have hm := (mkB_mk x _ _ _ _ _ hA).next
          have hc := ih y (by simp) (varT nx) to n1 (hsub y (by simp)) (fun z hz => h2 z (by omega))
          rw [inst_var (h2 nx (Int.le_refl _))] at hc
          simp only [outMap, Except.map]
          rw [hc]
          cases hC : mkB y (varT nx) to n1 with
          | error e => rfl
          | ok p =>
            simp only [outMap, Except.map]
            rw [inst_cmp]
            rfl
      · rw [if_neg hn, if_neg hn]
        by_cases hn2 : n = sSemi ∨ n = sBar
        · rw [if_pos hn2, if_pos hn2]
          have ha := ih x (by simp) f to nx (hsub x (by simp)) h2
          rw [ha]
          cases hA : mkB x f to nx with
          | error e => rfl
          | ok p =>
            obtain ⟨a, n1⟩ := p
            have hm := (mkB_mk x _ _ _ _ _ hA).next
            have hc := ih y (by simp) f to n1 (hsub y (by simp)) (fun z hz => h2 z (by omega))
            simp only [outMap, Except.map]
            rw [hc]
            cases hC : mkB y f to n1 with
            | error e => rfl
            | ok p =>
              simp only [outMap, Except.map]
              rw [inst_cmp]
              rfl
        · rw [if_neg hn2, if_neg hn2]
          by_cases hn3 : n = sDot
          · rw [if_pos hn3, if_pos hn3]
            split
            · show _ = Except.ok (inst σ (eqT _ _), nx)
              rw [inst_eq, inst_end _ (fun a ha => inst_id a (fun z hz => h1 z (elems_has _ z a ha hz)))]
            · rfl
          · rw [if_neg hn3, if_neg hn3]
            exact put_inst hids
    · next x =>
      by_cases hn : n = sNot
      · rw [if_pos hn, if_pos hn]
        have ha := ih x (by simp) f (varT nx) (nx + 1) (hsub x (by simp)) (fun z hz => h2 z (by omega))
        rw [inst_var (h2 nx (Int.le_refl _))] at ha
        rw [ha]
        cases hA : mkB x f (varT nx) (nx + 1) with
        | error e => rfl
        | ok p =>
          simp only [outMap, Except.map]
          rw [inst_cmp]
          simp only [List.map_cons, List.map_nil, inst_cmp, inst_eq]
      · rw [if_neg hn, if_neg hn]
        by_cases hn2 : n = sCurly
        · rw [if_pos hn2, if_pos hn2]
          show _ = Except.ok (inst σ (cmpT _ _), nx)
          rw [inst_cmp]
          simp only [List.map_cons, List.map_nil, inst_eq, hids x (by simp)]
        · rw [if_neg hn2, if_neg hn2]
          exact put_inst hids
    · exact put_inst hids
  · rw [if_neg hk5, if_neg hk5]
    by_cases hk2 : k = 2
    · rw [if_pos hk2, if_pos hk2]
      by_cases hn : n = sCurly
      · rw [if_pos hn, if_pos hn]
        show _ = Except.ok (inst σ (cmpT _ _), nx)
        rw [inst_cmp]
        simp only [List.map_cons, List.map_nil, inst_eq]
        rw [inst_id (atomT sTrue) (fun x hx => absurd hx hasV_atom)]
      · rw [if_neg hn, if_neg hn]
        by_cases hn2 : n = sCut
        · rw [if_pos hn2, if_pos hn2]
          show _ = Except.ok (inst σ (cmpT _ _), nx)
          rw [inst_cmp]
          simp only [List.map_cons, List.map_nil, inst_eq, hid]
        · rw [if_neg hn2, if_neg hn2]
          by_cases hn3 : n = sNil
          · rw [if_pos hn3, if_pos hn3]
            show _ = Except.ok (inst σ (eqT _ _), nx)
            rw [inst_eq]
          · rw [if_neg hn3, if_neg hn3]
            exact put_inst hids
    · rw [if_neg hk2, if_neg hk2]
      rfl
end Ht
