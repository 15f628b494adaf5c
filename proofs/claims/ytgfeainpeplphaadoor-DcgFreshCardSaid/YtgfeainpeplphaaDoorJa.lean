import Derived.Test.YtgfeainpeplphaaDoorHw
import Derived.Test.YtgfeainpeplphaaDoorHf
namespace Go.Proofs.YtgfeainpeplphaaDoor
open Go.RowKit Hb Ht
set_option linter.unusedVariables false
set_option linter.unusedSimpArgs false
/-! ### terms that may be: what follows -/
theorem stray_as {t : Tm} (h : stray t = false) (hk : t.k ≠ 5) : t.as = [] := by
  unfold stray at h
  simp only [Bool.or_eq_false_iff] at h
  have h2 := h.2
  by_cases h0 : t.as.length = 0
  · exact List.length_eq_zero_iff.1 h0
  · simp [h0, hk] at h2
theorem bare_errs (t : Tm) : errsP t = 0 → Bare t := by
  refine Tm.ind (p := fun t => errsP t = 0 → Bare t) (fun k n m b v ts ih h => ?_) t
  obtain ⟨h1, h2⟩ := errs_iff.1 h
  obtain ⟨_, hs, _⟩ := one_iff.1 h1
  exact ⟨fun hk => stray_as hs hk, Bares.of (fun a ha => ih a ha (h2 a ha))⟩
theorem bare_check {t : Tm} (h : checkP t = 0) : Bare t := bare_errs t (check_iff.1 h).2
theorem bare_cmp {s : List UInt8} {l : List Tm} (h : ∀ a ∈ l, Bare a) : Bare (cmpT s l) := ⟨fun h => absurd rfl h, Bares.of h⟩
theorem names_ok : Names Lib.validD := by
  unfold Names
  decide +kernel
theorem check_kind {t : Tm} (h : checkP t = 0) : 1 ≤ t.k ∧ t.k ≤ 5 := (one_iff.1 (check_one h)).1
theorem check_v {t : Tm} (h : checkP t = 0) : 0 ≤ t.v := (one_iff.1 (check_one h)).2.2.1
theorem check_args {t : Tm} (h : checkP t = 0) : t.as.length ≤ 64 := by
  obtain ⟨h1, hs, _, h5, _⟩ := one_iff.1 (check_one h)
  by_cases hk : t.k = 5
  · exact (h5 hk).2
  · rw [stray_as hs hk]; exact Nat.zero_le _
/-! ### blocks but one -/
/-- a term whose parts lie in blocks other than N -/
abbrev TX (w : World) (N : Nat) (t : Tm) (sl : Value) : Prop := TAtP w (fun b => b < w.heap.size ∧ b ≠ N) t sl
theorem TX.keep {w w' : World} {N : Nat} {t : Tm} {sl : Value} (h : TX w N t sl) (hg : w.grownBy w' (some N)) : TX w' N t sl :=
  TAtP.keep _ h (fun b hb => ⟨⟨Nat.lt_of_lt_of_le hb.1 hg.size, hb.2⟩, hg.block b hb.1 (fun e => hb.2 (by injection e))⟩)
theorem TX.below {w w' : World} {N : Nat} {t : Tm} {sl : Value} (h : TX w N t sl) (hb : Below w.heap.size w w') : TX w' N t sl :=
  TAtP.keep _ h (fun b hb2 => ⟨⟨Nat.lt_of_lt_of_le hb2.1 hb.size, hb2.2⟩, hb.block b hb2.1⟩)
theorem TX.at_ {w : World} {N : Nat} {t : Tm} {sl : Value} (h : TX w N t sl) : TAt w w.heap.size t sl := h.wide (fun b hb => hb.1)
theorem TX.arg {w : World} {N : Nat} {t : Tm} {A : Option Addr} {n c : Nat} (h : TX w N t (.slice A n c)) {i : Nat} {a : Tm} (ha : t.as[i]? = some a) : ∃ g o, A = some ⟨g, o, none⟩ ∧ g < w.heap.size ∧ g ≠ N ∧ EltP w (fun b => b < w.heap.size ∧ b ≠ N) g (o + i * 6) a := by
  obtain ⟨A', c', h1, h2, h3, h4, h5, h6⟩ := TAtP.iff.1 h
  injection h1 with e1 e2 e3
  subst e1
  obtain ⟨g, o, e, hg, hs⟩ := h6 (fun e => by rw [e] at ha; simp at ha)
  exact ⟨g, o, e, hg.1, hg.2, hs i a ha⟩
theorem grown_below {w w' : World} {r : Option Nat} (h : Below w.heap.size w w') : w.grownBy w' r := ⟨h.os, h.tape, h.output, h.size, fun j hj _ => h.block j hj⟩
theorem grown_trans {a b c : World} {r : Option Nat} (h : a.grownBy b r) (k : b.grownBy c r) : a.grownBy c r :=
  ⟨k.os.trans h.os, k.tape.trans h.tape, k.output.trans h.output, Nat.le_trans h.size k.size, fun j hj hn => (k.block j (Nat.lt_of_lt_of_le hj h.size) hn).trans (h.block j hj hn)⟩
/-- what stands in a block other than N -/
theorem grown_cell {w w' : World} {N : Nat} (h : w.grownBy w' (some N)) {p : Addr} (hp : p.block < w.heap.size) (hn : p.block ≠ N) : w'.cell? p = w.cell? p :=
  World.cell?_of_block (h.block _ hp (fun e => hn (by injection e)))
theorem UOk.grown {w0 w w' : World} {N : Nat} (h : UOk w0 w) (hg : w.grownBy w' (some N)) (hN : w0.heap.size ≤ N) : UOk w0 w' :=
  ⟨h.bel.grown hg h.bel.size (fun j e => by injection e with e; omega), h.u0⟩
end Go.Proofs.YtgfeainpeplphaaDoor
