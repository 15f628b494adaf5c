import Derived.Test.YtpikjceodmepiaaGreatDoorYlb
set_option linter.unusedVariables false
set_option linter.unusedSimpArgs false
namespace Go.Proofs.YtpikjceodmepiaaGreatDoor
open Go.RowKit Hb Hf
set_option linter.unusedVariables false
set_option linter.unusedSimpArgs false
/-! ### plain: how far the pieces of two sets go, and how many there are -/
theorem pred_sh (e : Ed) : (match e with | .num x => Ed.num (x - 1) | e => e) = shE (-1) e := by cases e <;> rfl
theorem pieceP_nil (low : Ed) : pieceP [] low = (false, .hi) := rfl
theorem pieceP_cons (r : R) (d : List R) (low : Ed) : pieceP (r :: d) low = if leE r.1 low then (if leE low r.2 then (true, r.2) else pieceP d low) else (false, shE (-1) r.1) := by
  obtain ⟨a, b⟩ := r
  rw [pieceP]
  cases a <;> rfl
theorem piece_from : ∀ (d : List R) (low : Ed), (pieceP d low).2 = .hi ∨ ∃ r ∈ d, ((pieceP d low).2 = shE (-1) r.1 ∧ ¬ leE r.1 low) ∨ ((pieceP d low).2 = r.2 ∧ leE low r.2)
  | [], _ => .inl rfl
  | r :: d, low => by
    rw [pieceP_cons]
    split
    · split
      · rename_i h; exact .inr ⟨r, List.mem_cons_self, .inr ⟨rfl, h⟩⟩
      · rcases piece_from d low with h | ⟨s, hs, h⟩
        · exact .inl h
        · exact .inr ⟨s, List.mem_cons_of_mem _ hs, h⟩
    · rename_i h; exact .inr ⟨r, List.mem_cons_self, .inl ⟨rfl, h⟩⟩
def mu1 (low : Ed) (r : R) : Nat := (if leE r.1 low then 0 else 1) + (if leE low r.2 then 1 else 0)
def mu (low : Ed) (L : List R) : Nat := (L.map (mu1 low)).sum
theorem mu_le (low : Ed) : ∀ L : List R, mu low L ≤ 2 * L.length
  | [] => Nat.zero_le _
  | r :: L => by
    have h1 := mu_le low L
    have h2 : mu1 low r ≤ 2 := by unfold mu1; split <;> split <;> omega
    show mu1 low r + mu low L ≤ _
    rw [List.length_cons]
    omega
theorem mu1_mono {l m : Ed} (h : leE l m) (r : R) : mu1 m r ≤ mu1 l r := by
  unfold mu1
  have a : leE r.1 l → leE r.1 m := fun k => leE_trans k h
  have b : leE m r.2 → leE l r.2 := fun k => leE_trans h k
  by_cases k1 : leE r.1 l <;> by_cases k2 : leE m r.2 <;> simp [k1, k2, a, b] <;> (try split) <;> omega
theorem mu_mono {l m : Ed} (h : leE l m) : ∀ L : List R, mu m L ≤ mu l L
  | [] => Nat.le_refl _
  | r :: L => Nat.add_le_add (mu1_mono h r) (mu_mono h L)
theorem mu_lt {l m : Ed} (h : leE l m) {r : R} (hs : mu1 m r < mu1 l r) : ∀ {L : List R}, r ∈ L → mu m L < mu l L
  | s :: L, hr => by
    show mu1 m s + mu m L < mu1 l s + mu l L
    have h1 := mu1_mono h s
    have h2 := mu_mono h L
    rcases List.mem_cons.1 hr with e | hr
    · subst e; omega
    · have := mu_lt h hs hr; omega
theorem minE_from {a b : List R} {low e : Ed} (he : minE (pieceP a low).2 (pieceP b low).2 = e) : e = .hi ∨ ∃ r ∈ a ++ b, (e = shE (-1) r.1 ∧ ¬ leE r.1 low) ∨ (e = r.2 ∧ leE low r.2) := by
  have h : e = (pieceP a low).2 ∨ e = (pieceP b low).2 := by rw [← he]; exact minE_or _ _
  rcases h with h | h
  · rcases piece_from a low with k | ⟨r, hr, k⟩
    · exact .inl (h.trans k)
    · exact .inr ⟨r, List.mem_append_left _ hr, by rw [h]; exact k⟩
  · rcases piece_from b low with k | ⟨r, hr, k⟩
    · exact .inl (h.trans k)
    · exact .inr ⟨r, List.mem_append_right _ hr, by rw [h]; exact k⟩
structure MS (wt : Bool → Bool → Bool) (a b : List R) (M : Nat) (out : List R) (low : Ed) : Prop where
  mi : MI wt a b out low
  bnd : ∀ r ∈ out, szE r.1 ≤ M + 1 ∧ szE r.2 ≤ M + 1
  lob : szE low ≤ M + 1
  cnt : out.length + mu low (a ++ b) ≤ 2 * (a.length + b.length)
  nhi : low ≠ .hi
theorem MS.start {wt : Bool → Bool → Bool} {a b : List R} {M : Nat} : MS wt a b M [] .lo :=
  ⟨MI.start, by simp, Nat.zero_le _, by have := mu_le .lo (a ++ b); rw [List.length_append] at this; simpa using this, by simp⟩
/-- the ends of two sets take at most M limbs -/
def Bnd (M : Nat) (a : List R) : Prop := ∀ r ∈ a, szE r.1 ≤ M ∧ szE r.2 ≤ M
structure MEnd (wt : Bool → Bool → Bool) (a b : List R) (M : Nat) (out : List R) : Prop where
  mi : MI wt a b out .hi
  bnd : ∀ r ∈ out, szE r.1 ≤ M + 1 ∧ szE r.2 ≤ M + 1
  len : out.length ≤ 2 * (a.length + b.length) + 1
theorem MS.step {wt : Bool → Bool → Bool} {a b out : List R} {low e : Ed} {M : Nat} (h : MS wt a b M out low) (ha : NF a) (hb : NF b) (ba : Bnd M a) (bb : Bnd M b) (he : minE (pieceP a low).2 (pieceP b low).2 = e) (k : List R)
    (hk : k = if wt (pieceP a low).1 (pieceP b low).1 = true then [(low, e)] else []) : szE e ≤ M + 1 ∧ (e = .hi → MEnd wt a b M (out ++ k)) ∧ (e ≠ .hi → MS wt a b M (out ++ k) (succE e) ∧ mu (succE e) (a ++ b) < mu low (a ++ b)) := by
  obtain ⟨h1, h2⟩ := h.mi.step ha hb h.nhi he
  rw [← hk] at h1
  have hm : ∀ r ∈ a ++ b, szE r.1 ≤ M ∧ szE r.2 ≤ M := fun r hr => (List.mem_append.1 hr).elim (ba r) (bb r)
  have hfrom := minE_from he
  have hsz : szE e ≤ M + 1 := by
    rcases hfrom with rfl | ⟨r, hr, ⟨rfl, _⟩ | ⟨rfl, _⟩⟩
    · exact Nat.zero_le _
    · exact szE_step (hm r hr).1 (.inr rfl)
    · exact Nat.le_succ_of_le (hm r hr).2
  have hkl : k.length ≤ 1 := by rw [hk]; split <;> simp
  have hbd : ∀ r ∈ out ++ k, szE r.1 ≤ M + 1 ∧ szE r.2 ≤ M + 1 := fun r hr => by
    rcases List.mem_append.1 hr with hr | hr
    · exact h.bnd r hr
    · rw [hk] at hr
      split at hr
      · rw [List.mem_singleton.1 hr]; exact ⟨h.lob, hsz⟩
      · cases hr
  refine ⟨hsz, fun heq => ?_, fun hne => ?_⟩
  · subst heq
    refine ⟨h1, hbd, ?_⟩
    rw [List.length_append]
    have := h.cnt
    omega
  · obtain ⟨y, hy, hly⟩ := h2.resolve_left hne
    have hle : leE low (succE e) := by
      rw [hy]
      cases low with
      | lo => trivial
      | num x => show x ≤ y + 1; have : x ≤ y := hly; omega
      | hi => exact hly.elim
    have hlt : mu (succE e) (a ++ b) < mu low (a ++ b) := by
      rcases hfrom with k1 | ⟨r, hr, ⟨k1, k2⟩ | ⟨k1, k2⟩⟩
      · exact absurd k1 hne
      · refine mu_lt hle ?_ hr
        have e1 : succE e = r.1 := by
          rw [k1] at hy ⊢
          cases hr1 : r.1 with
          | num x => show Ed.num (x + -1 + 1) = _; congr 1; omega
          | lo => rw [hr1] at hy; cases hy
          | hi => rfl
        rw [e1] at hle ⊢
        unfold mu1
        rw [if_pos (leE_refl _), if_neg k2]
        by_cases k3 : leE r.1 r.2
        · rw [if_pos k3, if_pos (leE_trans hle k3)]; omega
        · rw [if_neg k3]; split <;> omega
      · refine mu_lt hle ?_ hr
        unfold mu1
        rw [if_pos k2]
        have k3 : ¬ leE (succE e) r.2 := by
          rw [← k1, hy]
          show ¬ y + 1 ≤ y
          omega
        rw [if_neg k3]
        by_cases k4 : leE r.1 low
        · rw [if_pos k4, if_pos (leE_trans k4 hle)]; omega
        · rw [if_neg k4]; split <;> omega
    refine ⟨⟨h1, hbd, ?_, ?_, by rw [hy]; simp [succE]⟩, hlt⟩
    · rcases hfrom with k1 | ⟨r, hr, ⟨k1, k2⟩ | ⟨k1, k2⟩⟩
      · exact absurd k1 hne
      · have e1 : szE (succE e) = szE r.1 := by
          rw [k1]
          cases hr1 : r.1 with
          | num x => show szE (.num (x + -1 + 1)) = _; congr 2; omega
          | lo => rfl
          | hi => rfl
        rw [e1]
        exact Nat.le_succ_of_le (hm r hr).1
      · rw [k1, succE_sh]; exact szE_step (hm r hr).2 (.inl rfl)
    · rw [List.length_append]
      have := h.cnt
      omega
end Go.Proofs.YtpikjceodmepiaaGreatDoor

