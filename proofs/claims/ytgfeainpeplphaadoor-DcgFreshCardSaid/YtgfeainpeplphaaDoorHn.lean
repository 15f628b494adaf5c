import Derived.Test.YtgfeainpeplphaaDoorHm
namespace Go.Proofs.YtgfeainpeplphaaDoor
open Go.RowKit Hb Ht
set_option linter.unusedVariables false
set_option linter.unusedSimpArgs false
attribute [local go_sem] Oper.semAt_some
/-! ### trees of one's own: each part in blocks of its own -/
mutual
def TOwn (w : World) : Tm → Value → Nat → Nat → Prop
  | .mk k n m b v ts, sl, lo, hi => okF (.mk k n m b v ts) ∧ ts.length ≤ maxArgs ∧ lo ≤ hi ∧ ∃ A c, sl = .slice A ts.length c ∧ ts.length ≤ c ∧ c ≤ maxLen ∧ (ts ≠ [] → ∃ g, A = some ⟨g, 0, none⟩ ∧ lo ≤ g ∧ g < hi ∧ (∃ cs, w.heap[g]? = some (.cells cs 25 (0, 0))) ∧ TsOwn w g ts 0 (g + 1) hi)
def TsOwn (w : World) (g : Nat) : List Tm → Nat → Nat → Nat → Prop
  | [], _, lo, hi => lo ≤ hi
  | a :: ts, i, lo, hi => ∃ sl mid, lo ≤ mid ∧ mid ≤ hi ∧ (∀ j, j < 6 → w.cell? ⟨g, i * 6 + j, none⟩ = (cells6 a sl)[j]?) ∧ TOwn w a sl lo mid ∧ TsOwn w g ts (i + 1) mid hi
end
theorem TOwn.iff {w : World} {t : Tm} {sl : Value} {lo hi : Nat} : TOwn w t sl lo hi ↔ okF t ∧ t.as.length ≤ maxArgs ∧ lo ≤ hi ∧ ∃ A c, sl = .slice A t.as.length c ∧ t.as.length ≤ c ∧ c ≤ maxLen ∧ (t.as ≠ [] → ∃ g, A = some ⟨g, 0, none⟩ ∧ lo ≤ g ∧ g < hi ∧ (∃ cs, w.heap[g]? = some (.cells cs 25 (0, 0))) ∧ TsOwn w g t.as 0 (g + 1) hi) := by
  obtain ⟨k, n, m, b, v, ts⟩ := t
  rw [TOwn]
  rfl
theorem TsOwn.le {w : World} {g : Nat} : ∀ {ts : List Tm} {i lo hi : Nat}, TsOwn w g ts i lo hi → lo ≤ hi
  | [], _, _, _, h => h
  | a :: ts, i, lo, hi, h => by
    obtain ⟨_, mid, h1, h2, _⟩ := h
    omega
theorem TsOwn.keep_ {w w' : World} {g : Nat} : ∀ (ts : List Tm), (∀ a ∈ ts, ∀ sl lo hi, TOwn w a sl lo hi → (∀ b, lo ≤ b → b < hi → w'.heap[b]? = w.heap[b]?) → TOwn w' a sl lo hi) → ∀ {i lo hi : Nat}, TsOwn w g ts i lo hi →
    (∀ b, lo ≤ b → b < hi → w'.heap[b]? = w.heap[b]?) → (∀ j, i * 6 ≤ j → j < (i + ts.length) * 6 → w'.cell? ⟨g, j, none⟩ = w.cell? ⟨g, j, none⟩) → TsOwn w' g ts i lo hi
  | [], _, _, _, _, h, _, _ => h
  | a :: ts, ih, i, lo, hi, h, hb, hc => by
    obtain ⟨sl, mid, h1, h2, h3, h4, h5⟩ := h
    exact ⟨sl, mid, h1, h2, fun j hj => (hc _ (by omega) (by rw [List.length_cons]; omega)).trans (h3 j hj), ih a (by simp) sl lo mid h4 (fun b hb1 hb2 => hb b hb1 (by omega)),
      TsOwn.keep_ ts (fun x hx => ih x (by simp [hx])) h5 (fun b hb1 hb2 => hb b (by omega) hb2) (fun j hj hj2 => hc j (by omega) (by rw [List.length_cons]; omega))⟩
theorem TOwn.keep (t : Tm) : ∀ {w w' : World} {sl : Value} {lo hi : Nat}, TOwn w t sl lo hi → (∀ b, lo ≤ b → b < hi → w'.heap[b]? = w.heap[b]?) → TOwn w' t sl lo hi := by
  refine Tm.ind (p := fun t => ∀ {w w' : World} {sl : Value} {lo hi : Nat}, TOwn w t sl lo hi → (∀ b, lo ≤ b → b < hi → w'.heap[b]? = w.heap[b]?) → TOwn w' t sl lo hi) (fun k n m b v ts ih w w' sl lo hi h hb => ?_) t
  rw [TOwn.iff] at h ⊢
  obtain ⟨h1, h2, h3, A, c, h4, h5, h6, h7⟩ := h
  refine ⟨h1, h2, h3, A, c, h4, h5, h6, fun hne => ?_⟩
  obtain ⟨g, e, hg1, hg2, ⟨cs, hcs⟩, hs⟩ := h7 hne
  refine ⟨g, e, hg1, hg2, ⟨cs, (hb g hg1 hg2).trans hcs⟩, TsOwn.keep_ ts (fun a ha sl lo hi h hb => ih a ha h hb) hs (fun b hb1 hb2 => hb b (by omega) hb2) (fun j _ _ => World.cell?_of_block (a := ⟨g, j, none⟩) (hb g hg1 hg2))⟩
theorem TsOwn.keep {w w' : World} {g : Nat} {ts : List Tm} {i lo hi : Nat} (h : TsOwn w g ts i lo hi) (hb : ∀ b, lo ≤ b → b < hi → w'.heap[b]? = w.heap[b]?) (hc : ∀ j, i * 6 ≤ j → j < (i + ts.length) * 6 → w'.cell? ⟨g, j, none⟩ = w.cell? ⟨g, j, none⟩) : TsOwn w' g ts i lo hi :=
  TsOwn.keep_ ts (fun a _ sl lo hi h hb => TOwn.keep a h hb) h hb hc
theorem TsOwn.widen {w : World} {g hi hi' : Nat} (hh : hi ≤ hi') : ∀ (ts : List Tm) (i lo : Nat), TsOwn w g ts i lo hi → TsOwn w g ts i lo hi'
  | [], _, _, h => Nat.le_trans h hh
  | a :: ts, i, lo, h => by
    obtain ⟨sl, mid, a1, a2, a3, a4, a5⟩ := h
    exact ⟨sl, mid, a1, by omega, a3, a4, TsOwn.widen hh ts _ _ a5⟩
theorem TOwn.widen {w : World} {t : Tm} {sl : Value} {lo hi hi' : Nat} (h : TOwn w t sl lo hi) (hh : hi ≤ hi') : TOwn w t sl lo hi' := by
  rw [TOwn.iff] at h ⊢
  obtain ⟨h1, h2, h3, A, c, h4, h5, h6, h7⟩ := h
  refine ⟨h1, h2, by omega, A, c, h4, h5, h6, fun hne => ?_⟩
  obtain ⟨g, e, hg1, hg2, hcs, hs⟩ := h7 hne
  exact ⟨g, e, hg1, by omega, hcs, TsOwn.widen hh _ _ _ hs⟩
theorem TOwn.lower {w : World} {t : Tm} {sl : Value} {lo lo' hi : Nat} (h : TOwn w t sl lo hi) (hh : lo' ≤ lo) : TOwn w t sl lo' hi := by
  rw [TOwn.iff] at h ⊢
  obtain ⟨h1, h2, h3, A, c, h4, h5, h6, h7⟩ := h
  refine ⟨h1, h2, by omega, A, c, h4, h5, h6, fun hne => ?_⟩
  obtain ⟨g, e, hg1, hg2, hcs, hs⟩ := h7 hne
  exact ⟨g, e, by omega, hg2, hcs, hs⟩
/-- one more behind -/
theorem TsOwn.snoc {w : World} {g : Nat} {a : Tm} {sl : Value} : ∀ {ts : List Tm} {i lo mid hi : Nat}, TsOwn w g ts i lo mid → mid ≤ hi → (∀ j, j < 6 → w.cell? ⟨g, (i + ts.length) * 6 + j, none⟩ = (cells6 a sl)[j]?) → TOwn w a sl mid hi → TsOwn w g (ts ++ [a]) i lo hi
  | [], i, lo, mid, hi, h, hm, hc, ha => by
    refine ⟨sl, hi, ?_, Nat.le_refl _, fun j hj => ?_, ha.lower h, Nat.le_refl _⟩
    · have h' : lo ≤ mid := h
      omega
    · have := hc j hj
      simpa using this
  | b :: ts, i, lo, mid, hi, h, hm, hc, ha => by
    obtain ⟨sb, m1, h1, h2, h3, h4, h5⟩ := h
    refine ⟨sb, m1, h1, by omega, h3, h4, TsOwn.snoc h5 hm (fun j hj => ?_) ha⟩
    rw [← hc j hj, List.length_cons, show i + 1 + ts.length = i + (ts.length + 1) by omega]
/-- it reads as the term -/
theorem TOwn.atP (t : Tm) : ∀ {w : World} {sl : Value} {lo hi : Nat}, TOwn w t sl lo hi → TAtP w (fun b => lo ≤ b ∧ b < hi) t sl := by
  refine Tm.ind (p := fun t => ∀ {w : World} {sl : Value} {lo hi : Nat}, TOwn w t sl lo hi → TAtP w (fun b => lo ≤ b ∧ b < hi) t sl) (fun k n m b v ts ih w sl lo hi h => ?_) t
  rw [TOwn.iff] at h
  rw [TAtP.iff]
  obtain ⟨h1, h2, h3, A, c, h4, h5, h6, h7⟩ := h
  refine ⟨A, c, h4, h5, h6, h2, h1, fun hne => ?_⟩
  obtain ⟨g, e, hg1, hg2, _, hs⟩ := h7 hne
  refine ⟨g, 0, e, ⟨hg1, hg2⟩, ?_⟩
  have key : ∀ (l : List Tm), (∀ a ∈ l, ∀ {sl : Value} {lo hi : Nat}, TOwn w a sl lo hi → TAtP w (fun b => lo ≤ b ∧ b < hi) a sl) → ∀ (i lo2 : Nat), lo ≤ lo2 → TsOwn w g l i lo2 hi → ∀ q a, l[q]? = some a → EltP w (fun b => lo ≤ b ∧ b < hi) g ((i + q) * 6) a := by
    intro l
    induction l with
    | nil => intro _ i lo2 _ _ q a hq; simp at hq
    | cons x l ihl =>
      intro hh i lo2 hlo h q a hq
      obtain ⟨sx, mid, m1, m2, m3, m4, m5⟩ := h
      cases q with
      | zero =>
        cases hq
        refine ⟨sx, fun j hj => m3 j hj, (hh x (by simp) m4).wide (fun b hb => ⟨by omega, by omega⟩)⟩
      | succ q =>
        have := ihl (fun y hy => hh y (by simp [hy])) (i + 1) mid (by omega) m5 q a (by simpa using hq)
        rwa [show i + 1 + q = i + (q + 1) by omega] at this
  intro i a ha
  have := key ts (fun a ha => ih a ha) 0 (g + 1) (by omega) hs i a ha
  rwa [Nat.zero_add, ← Nat.zero_add (i * 6)] at this
end Go.Proofs.YtgfeainpeplphaaDoor
