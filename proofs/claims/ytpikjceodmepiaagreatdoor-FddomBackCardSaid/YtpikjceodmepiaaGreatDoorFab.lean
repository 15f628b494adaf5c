import Derived.Test.YtpikjceodmepiaaGreatDoorAyb
import Derived.Test.YtpikjceodmepiaaGreatDoorYmb
set_option linter.unusedVariables false
set_option linter.unusedSimpArgs false
namespace Go.Proofs.YtpikjceodmepiaaGreatDoor
open Go.RowKit Hb Hf Ht
set_option linter.unusedVariables false
set_option linter.unusedSimpArgs false
/-! ### a set as a term, and a term read: plain -/
def sInf : List UInt8 := [105, 110, 102]
def sSup : List UInt8 := [115, 117, 112]
def sDots : List UInt8 := [46, 46]
def sOr : List UInt8 := [92, 47]
def decB (z : Int) : List UInt8 := (txtZ z 10).map UInt8.ofNat
def intT (m : List UInt8) : Tm := .mk 3 [] m 0 0 []
def endT : Ed → Tm
  | .lo => atomT sInf
  | .hi => atomT sSup
  | .num z => intT (decB z)
def spanT (r : R) : Tm := if r.1 = r.2 then endT r.1 else cmpT sDots [endT r.1, endT r.2]
def orT (t : Tm) (r : R) : Tm := cmpT sOr [t, spanT r]
def setT : List R → Tm
  | [] => cmpT sDots [endT (.num 1), endT (.num 0)]
  | r :: rs => rs.foldl orT (spanT r)
/-- an end read -/
def bdT (t : Tm) : Ed × Bool :=
  if t.k = 3 then (.num (pVal t.m 10), true) else if t.k = 2 ∧ t.n = sInf then (.lo, true) else if t.k = 2 ∧ t.n = sSup then (.hi, true) else (.num 0, false)
/-- a term read -/
def rdT : Tm → List R × Bool
  | .mk k n m b v ts =>
    if k = 3 then ([(.num (pVal m 10), .num (pVal m 10))], true)
    else match ts with
      | [x, y] =>
        if k = 5 ∧ n = sDots then ([((bdT x).1, (bdT y).1)], (bdT x).2 && (bdT y).2)
        else if k = 5 ∧ n = sOr then ((rdT x).1 ++ (rdT y).1, (rdT x).2 && (rdT y).2)
        else ([], false)
      | _ => ([], false)
termination_by t => sz t
decreasing_by all_goals (simp [sz, szs]; omega)
theorem decB_back (z : Int) : pVal (decB z) 10 = z := (txtZ_back z (r := 10) (by decide) (by decide)).1
theorem bd_end (e : Ed) : bdT (endT e) = (e, true) := by
  cases e with
  | lo => rfl
  | hi => rfl
  | num z =>
    show (Ed.num (pVal (decB z) 10), true) = _
    rw [decB_back]
theorem rd_num (z : Int) : rdT (endT (.num z)) = ([(.num z, .num z)], true) := by
  show rdT (.mk 3 [] (decB z) 0 0 []) = _
  rw [rdT, if_pos rfl, decB_back]
  intro x y h
  cases h
theorem rd_span {r : R} (h : r.1 = r.2 → ∃ z, r.1 = .num z) : rdT (spanT r) = ([r], true) := by
  obtain ⟨a, b⟩ := r
  unfold spanT
  by_cases e : a = b
  · obtain ⟨z, hz⟩ := h e
    simp only at hz
    subst e
    subst hz
    rw [if_pos rfl, rd_num]
  · rw [if_neg e]
    show rdT (.mk 5 sDots [] 0 0 [endT a, endT b]) = _
    rw [rdT, if_neg (by decide), if_pos ⟨rfl, rfl⟩, bd_end, bd_end]
    rfl
theorem rd_or {t : Tm} {L : List R} {r : R} (ht : rdT t = (L, true)) (hr : rdT (spanT r) = ([r], true)) : rdT (orT t r) = (L ++ [r], true) := by
  show rdT (.mk 5 sOr [] 0 0 [t, spanT r]) = _
  rw [rdT, if_neg (by decide), if_neg (by decide), if_pos ⟨rfl, rfl⟩, ht, hr]
  rfl
theorem rd_fold : ∀ (rs : List R) (t : Tm) (L : List R), rdT t = (L, true) → (∀ r ∈ rs, rdT (spanT r) = ([r], true)) → rdT (rs.foldl orT t) = (L ++ rs, true)
  | [], t, L, h, _ => by simpa using h
  | r :: rs, t, L, h, hr => by
    rw [List.foldl_cons, rd_fold rs _ (L ++ [r]) (rd_or h (hr r (by simp))) (fun x hx => hr x (by simp [hx]))]
    simp
theorem ok_num {r : R} (h : Hf.ok r) (e : r.1 = r.2) : ∃ z, r.1 = .num z := by
  obtain ⟨z, h1, h2⟩ := h
  rw [← e] at h2
  cases e1 : r.1 with
  | lo => rw [e1] at h2; exact h2.elim
  | hi => rw [e1] at h1; exact h1.elim
  | num x => exact ⟨x, rfl⟩
theorem rd_set {L : List R} (h : NF L) (hL : L ≠ []) : rdT (setT L) = (L, true) := by
  have hs : ∀ r ∈ L, rdT (spanT r) = ([r], true) := fun r hr => rd_span (ok_num ((NF.iff.1 h).1 r hr))
  cases L with
  | nil => exact absurd rfl hL
  | cons r rs => exact rd_fold rs _ [r] (hs r (by simp)) (fun x hx => hs x (by simp [hx]))
theorem rd_nil : rdT (setT []) = ([(.num 1, .num 0)], true) := by
  show rdT (.mk 5 sDots [] 0 0 [endT (.num 1), endT (.num 0)]) = _
  rw [rdT, if_neg (by decide), if_pos ⟨rfl, rfl⟩, bd_end, bd_end]
  rfl
theorem szE_one : szE (.num 1) = 1 := by
  show (digs W 1).length = 1
  decide +kernel
theorem szE_nought : szE (.num 0) = 0 := by
  show (digs W 0).length = 0
  decide +kernel
/-- what was told is read again -/
theorem rd_told {L : List R} {M : Nat} (h : NF L) (hM : Bnd M L) (hM1 : 1 ≤ M) : (rdT (setT L)).2 = true ∧ (∀ z, mem z (rdT (setT L)).1 ↔ mem z L) ∧ (rdT (setT L)).1.length ≤ L.length + 1 ∧ Bnd M (rdT (setT L)).1 := by
  by_cases hL : L = []
  · subst hL
    rw [rd_nil]
    refine ⟨rfl, fun z => ?_, by simp, fun r hr => ?_⟩
    · rw [mem_cons]
      constructor
      · rintro (⟨h1, h2⟩ | h1)
        · have h1 : (1 : Int) ≤ z := h1
          have h2 : z ≤ (0 : Int) := h2
          omega
        · exact h1
      · exact fun h1 => (mem_nil h1).elim
    · rw [List.mem_singleton.1 hr]
      simp only [szE_one, szE_nought]
      omega
  · rw [rd_set h hL]
    exact ⟨rfl, fun z => Iff.rfl, by simp, hM⟩
/-! ### such a term may be -/
theorem short_sz {z : Int} (h : szE (.num z) ≤ 128) : tooLong z = false := by
  have h0 : (digs W z.natAbs).length ≤ 128 := h
  have h1 := lt_of_digs_length (b := W) (by decide) h0
  rw [tooLong_iff, decide_eq_false_iff_not, Classical.not_not]
  refine Nat.lt_of_lt_of_le h1 (Nat.le_of_eq ?_)
  show 4294967296 ^ 128 = 2 ^ 4096
  decide +kernel
theorem canon_dec {z : Int} (h : tooLong z = false) : canonB (decB z) = true := by
  have hb : pVal (decB z) ((10 : Nat) : Int) = z ∧ pBad (decB z) ((10 : Nat) : Int) = false := txtZ_back z (r := 10) (by decide) (by decide)
  have hc : pCode (decB z) 10 = 0 := by
    have := pCode_err (bs := decB z) (r := 10) (by decide) (by decide) hb.2
    rw [hb.1, h] at this
    exact this
  unfold canonB
  rw [hc, decB_back]
  simp [decB]
theorem dec_len {z : Int} (h : tooLong z = false) : (decB z).length ≤ 4098 := by
  have := strN_size (z := z) (r := 10) (by decide) h
  have e : (strN (txtZ z 10)).size = (decB z).length := by simp [strN, ByteArray.size, decB]
  rwa [e] at this
def EdOk (e : Ed) : Prop := szE e ≤ 128
theorem okF_end {e : Ed} (h : EdOk e) : okF (endT e) := by
  cases e with
  | lo => exact okF_atom (by decide)
  | hi => exact okF_atom (by decide)
  | num z =>
    refine ⟨by simp [endT, intT, Tm.n], ?_, by simp [endT, intT, Tm.b], by simp [endT, intT, Tm.v], by simp [endT, intT, Tm.k]⟩
    show (decB z).length ≤ maxLen
    have := dec_len (short_sz h)
    unfold maxLen
    omega
theorem end_as (e : Ed) : (endT e).as = [] := by cases e <;> rfl
theorem errs_end {e : Ed} (h : EdOk e) : errsP (endT e) = 0 := by
  refine errs_iff.2 ⟨?_, by rw [end_as]; simp⟩
  cases e with
  | lo => exact one_iff.2 ⟨by decide, by decide, by decide, fun h => absurd h (by decide), by decide +kernel, by decide, fun h => absurd h (by decide), fun h => absurd h (by decide)⟩
  | hi => exact one_iff.2 ⟨by decide, by decide, by decide, fun h => absurd h (by decide), by decide +kernel, by decide, fun h => absurd h (by decide), fun h => absurd h (by decide)⟩
  | num z => exact one_iff.2 ⟨by simp [endT, intT, Tm.k], by simp [endT, intT, stray, Tm.k, Tm.n, Tm.m, Tm.b, Tm.v, Tm.as], by simp [endT, intT, Tm.v], fun h => absurd h (by simp [endT, intT, Tm.k]), (show Lib.validD [] = true by decide +kernel), by simp [endT, intT, Tm.n], fun _ => canon_dec (short_sz h), fun h => absurd h (by simp [endT, intT, Tm.k])⟩
theorem one_two {s : List UInt8} {x y : Tm} (hs : Lib.validD s = true) (hl : s.length ≤ 1000) : oneP (cmpT s [x, y]) = 0 :=
  one_iff.2 ⟨by simp [cmpT, Tm.k], by simp [cmpT, stray, Tm.k, Tm.n, Tm.m, Tm.b, Tm.v, Tm.as], by simp [cmpT, Tm.v], fun _ => by simp [cmpT, Tm.as], hs, hl, fun h => absurd h (by simp [cmpT, Tm.k]), fun h => absurd h (by simp [cmpT, Tm.k])⟩
theorem errs_two {s : List UInt8} {x y : Tm} (hs : Lib.validD s = true) (hl : s.length ≤ 1000) (hx : errsP x = 0) (hy : errsP y = 0) : errsP (cmpT s [x, y]) = 0 := by
  refine errs_iff.2 ⟨one_two hs hl, fun a ha => ?_⟩
  have ha : a ∈ [x, y] := ha
  simp only [List.mem_cons, List.not_mem_nil, or_false] at ha
  rcases ha with rfl | rfl
  · exact hx
  · exact hy
theorem valid_dots : Lib.validD sDots = true := by decide +kernel
theorem valid_or : Lib.validD sOr = true := by decide +kernel
theorem errs_span {r : R} (h : EdOk r.1 ∧ EdOk r.2) : errsP (spanT r) = 0 := by
  unfold spanT
  split
  · exact errs_end h.1
  · exact errs_two valid_dots (by decide) (errs_end h.1) (errs_end h.2)
theorem sz_end (e : Ed) : sz (endT e) = 1 := by cases e <;> rfl
theorem sz_span (r : R) : sz (spanT r) ≤ 3 := by
  unfold spanT
  split
  · rw [sz_end]; omega
  · simp [cmpT, sz, szs, sz_end]
theorem errs_fold : ∀ (rs : List R) (t : Tm), errsP t = 0 → (∀ r ∈ rs, EdOk r.1 ∧ EdOk r.2) → errsP (rs.foldl orT t) = 0
  | [], t, h, _ => h
  | r :: rs, t, h, hr => errs_fold rs _ (errs_two valid_or (by decide) h (errs_span (hr r (by simp)))) (fun x hx => hr x (by simp [hx]))
theorem sz_fold : ∀ (rs : List R) (t : Tm), sz (rs.foldl orT t) ≤ sz t + 4 * rs.length
  | [], t => by simp
  | r :: rs, t => by
    have h := sz_fold rs (orT t r)
    have h2 := sz_span r
    have e : sz (orT t r) = sz t + sz (spanT r) + 1 := by simp [orT, cmpT, sz, szs]
    rw [List.foldl_cons, List.length_cons]
    omega
theorem check_set {L : List R} (hn : L.length ≤ 1000) (h : Bnd 128 L) : checkP (setT L) = 0 := by
  rw [check_iff]
  cases L with
  | nil => exact ⟨by simp [setT, cmpT, sz, szs, sz_end], errs_two valid_dots (by decide) (errs_end (by unfold EdOk; rw [szE_one]; decide)) (errs_end (by unfold EdOk; rw [szE_nought]; decide))⟩
  | cons r rs =>
    refine ⟨?_, errs_fold rs _ (errs_span (h r (by simp))) (fun x hx => h x (by simp [hx]))⟩
    have h1 := sz_fold rs (spanT r)
    have h2 := sz_span r
    show sz (rs.foldl orT (spanT r)) ≤ 4000
    rw [List.length_cons] at hn
    omega
end Go.Proofs.YtpikjceodmepiaaGreatDoor

