import Derived.Test.YtggdmhkdmkldoaaCl
namespace Go.Proofs.Ytggdmhkdmkldoaa
open Go.RowKit Hb

/-! ### a law's variables: each a block of two cells that reads as an integer -/
structure VE where
  g : Nat
  neg : Bool
  A : Option Addr
  n : Nat
  c : Nat
  l : List Nat
/-- the variables vs of a call that began at w0 -/
def Env (w0 w : World) (vs : List VE) : Prop :=
  Below w0.heap.size w0 w ∧ (∀ v ∈ vs, w0.heap.size ≤ v.g ∧ Bx w v.g (.bool v.neg) (.slice v.A v.n v.c) ∧ SlU w w.heap.size v.A v.n v.c v.l ∧ (v.l ≠ [] → ∀ u ∈ vs, ∀ b o, v.A = some ⟨b, o, none⟩ → b ≠ u.g)) ∧ (vs.map VE.g).Nodup
section
variable {w0 w w' : World} {vs : List VE} {v : VE}
theorem Env.b (h : Env w0 w vs) : Below w0.heap.size w0 w := h.1
theorem Env.x (h : Env w0 w vs) (hv : v ∈ vs) : Bx w v.g (.bool v.neg) (.slice v.A v.n v.c) := (h.2.1 v hv).2.1
theorem Env.s (h : Env w0 w vs) (hv : v ∈ vs) : SlU w w.heap.size v.A v.n v.c v.l := (h.2.1 v hv).2.2.1
theorem SlU.to {w w' : World} {B n c : Nat} {A : Option Addr} {l : List Nat} (h : SlU w B A n c l) (hb : Below w.heap.size w w') (hB : B ≤ w.heap.size) : SlU w' w'.heap.size A n c l :=
  (h.below hb hB).mono (Nat.le_trans hB hb.size)
theorem Env.below (h : Env w0 w vs) (hb : Below w.heap.size w w') : Env w0 w' vs :=
  ⟨h.1.trans (hb.mono h.1.size), fun v hv => ⟨(h.2.1 v hv).1, (h.x hv).below hb (h.x hv).lt, SlU.to (h.s hv) hb (Nat.le_refl _), (h.2.1 v hv).2.2.2⟩, h.2.2⟩
theorem Env.nil (w : World) : Env w w [] := ⟨Below.refl _ _, fun v hv => (by cases hv), by simp⟩
theorem SlU.far {w : World} {B n c : Nat} {A : Option Addr} {l : List Nat} (h : SlU w B A n c l) {p : Addr} (hp : l ≠ [] → ∀ b o, A = some ⟨b, o, none⟩ → b ≠ p.block) (u : Value) : SlU (w.setCell p u) B A n c l :=
  ⟨h.len, h.cap, h.max, h.dig, fun hx => by
    obtain ⟨b, o, hA, hlt, hc⟩ := h.rd hx
    refine ⟨b, o, hA, hlt, fun i v hi => ?_⟩
    rw [← hc i v hi]
    exact World.cell?_of_block (Below.heap_setCell w p u b (hp (fun e => hx (by rw [e]; rfl)) b o hA))⟩
/-- a new variable, what it holds being older than it -/
theorem Env.push (h : Env w0 w vs) {neg : Bool} {A : Option Addr} {n c : Nat} {l : List Nat} (hs : SlU w w.heap.size A n c l) (hA : l ≠ [] → ∀ u ∈ vs, ∀ b o, A = some ⟨b, o, none⟩ → b ≠ u.g) (hlt : l ≠ [] → ∀ b o, A = some ⟨b, o, none⟩ → b < w.heap.size)
    (hlv : ∀ v ∈ vs, v.l ≠ [] → ∀ b o, v.A = some ⟨b, o, none⟩ → b < w.heap.size) :
    Env w0 (w.alloc (.cells #[.bool neg, .slice A n c] 24)) (⟨w.heap.size, neg, A, n, c, l⟩ :: vs) := by
  have hb := (Below.refl w.heap.size w).alloc (Nat.le_refl _) (.cells #[.bool neg, .slice A n c] 24)
  refine ⟨h.1.trans (hb.mono h.1.size), fun v hv => ?_, ?_⟩
  · rcases List.mem_cons.1 hv with rfl | hv
    · refine ⟨h.1.size, Bx.new w _ _, SlU.to hs hb (Nat.le_refl _), fun hne u hu b o e => ?_⟩
      rcases List.mem_cons.1 hu with rfl | hu
      · have := hlt hne b o e; exact Nat.ne_of_lt this
      · exact hA hne u hu b o e
    · refine ⟨(h.2.1 v hv).1, (h.x hv).alloc _, SlU.to (h.s hv) hb (Nat.le_refl _), fun hne u hu b o e => ?_⟩
      rcases List.mem_cons.1 hu with rfl | hu
      · have := hlv v hv hne b o e; exact Nat.ne_of_lt this
      · exact (h.2.1 v hv).2.2.2 hne u hu b o e
  · simp only [List.map_cons, List.nodup_cons]
    refine ⟨fun hm => ?_, h.2.2⟩
    obtain ⟨v, hv, e⟩ := List.mem_map.1 hm
    have := (h.x hv).lt
    omega
theorem own_block {t : TypeId} {B n c : Nat} {A : Option Addr} {xs : List Value} (h : Own t w B A n c xs) {b o : Nat} (e : A = some ⟨b, o, none⟩) : B ≤ b ∧ b < w.heap.size := by
  rcases h.form with ⟨h1, _⟩ | ⟨g, h1, h2, h3⟩
  · rw [h1] at e; cases e
  · rw [h1] at e; injection e with e; injection e with e1 e2; omega
end
/-- the variables' slices lie in old blocks -/
def Old (w : World) (vs : List VE) : Prop := ∀ v ∈ vs, v.l ≠ [] → ∀ b o, v.A = some ⟨b, o, none⟩ → b < w.heap.size
section
variable {w0 w w' : World} {vs : List VE} {v : VE}
/-- behind a call: its result, of the call's own, in a new variable -/
theorem Env.call_push (h : Env w0 w vs) (hold : Old w vs) (hb : Below w.heap.size w w') {neg : Bool} {A : Option Addr} {n c : Nat} {l : List Nat} (ho : OwnU w' w.heap.size A n c (u32s l)) (hd : Dig W l) (hl : l.length = n) :
    Env w0 (w'.alloc (.cells #[.bool neg, .slice A n c] 24)) (⟨w'.heap.size, neg, A, n, c, l⟩ :: vs) ∧ Old (w'.alloc (.cells #[.bool neg, .slice A n c] 24)) (⟨w'.heap.size, neg, A, n, c, l⟩ :: vs) := by
  have hz := hb.size
  have hold2 : Old w' vs := fun v hv hne b o e => Nat.lt_of_lt_of_le (hold v hv hne b o e) hz
  refine ⟨(h.below hb).push (Own.sl ho hd hl) (fun _ u hu b o e => ?_) (fun _ b o e => (own_block ho e).2) hold2, fun v hv hne b o e => ?_⟩
  · have h1 := (own_block ho e).1
    have h2 := (h.x hu).lt
    omega
  · have hz2 : (w'.alloc (.cells #[.bool neg, .slice A n c] 24)).heap.size = w'.heap.size + 1 := by simp
    rcases List.mem_cons.1 hv with rfl | hv
    · have := (own_block ho e).2; omega
    · have := hold2 v hv hne b o e; omega
theorem Old.below (h : Old w vs) (hb : Below w.heap.size w w') : Old w' vs := fun v hv hne b o e => Nat.lt_of_lt_of_le (h v hv hne b o e) hb.size
/-- behind a call: its result stored into a variable that is there -/
theorem Env.call_set (h : Env w0 w vs) (hold : Old w vs) (hb : Below w.heap.size w w') {neg : Bool} {A : Option Addr} {n c : Nat} {l : List Nat} (ho : OwnU w' w.heap.size A n c (u32s l)) (hd : Dig W l) (hl : l.length = n) (i : Nat) {v0 : VE} (hi : vs[i]? = some v0) :
    Env w0 ((w'.setCell ⟨v0.g, 0, none⟩ (.bool neg)).setCell ⟨v0.g, 1, none⟩ (.slice A n c)) (vs.set i ⟨v0.g, neg, A, n, c, l⟩) ∧ Old ((w'.setCell ⟨v0.g, 0, none⟩ (.bool neg)).setCell ⟨v0.g, 1, none⟩ (.slice A n c)) (vs.set i ⟨v0.g, neg, A, n, c, l⟩) := by
  have hE := h.below hb
  have hz := hb.size
  have hm0 : v0 ∈ vs := List.mem_of_getElem? hi
  have hilt : i < vs.length := (List.getElem?_eq_some_iff.1 hi).1
  have hwz : ((w'.setCell ⟨v0.g, 0, none⟩ (.bool neg)).setCell ⟨v0.g, 1, none⟩ (.slice A n c)).heap.size = w'.heap.size := by simp
  have hnd := hE.2.2
  have hsl : ∀ {A' : Option Addr} {n' c' : Nat} {l' : List Nat}, SlU w' w'.heap.size A' n' c' l' → (l' ≠ [] → ∀ b o, A' = some ⟨b, o, none⟩ → b ≠ v0.g) →
      SlU ((w'.setCell ⟨v0.g, 0, none⟩ (.bool neg)).setCell ⟨v0.g, 1, none⟩ (.slice A n c)) ((w'.setCell ⟨v0.g, 0, none⟩ (.bool neg)).setCell ⟨v0.g, 1, none⟩ (.slice A n c)).heap.size A' n' c' l' := by
    intro A' n' c' l' hs hne
    rw [hwz]
    exact SlU.far (SlU.far hs (p := ⟨v0.g, 0, none⟩) hne _) (p := ⟨v0.g, 1, none⟩) hne _
  have hAne : ∀ u ∈ vs, ∀ b o, A = some ⟨b, o, none⟩ → b ≠ u.g := by
    intro u hu b o e
    have h1 := (own_block ho e).1
    have h2 := (h.x hu).lt
    omega
  have hmemg : ∀ u ∈ vs.set i ⟨v0.g, neg, A, n, c, l⟩, ∃ u' ∈ vs, u'.g = u.g := by
    intro u hu
    rcases List.mem_or_eq_of_mem_set hu with hu | rfl
    · exact ⟨u, hu, rfl⟩
    · exact ⟨v0, hm0, rfl⟩
  have hmap : (vs.set i ⟨v0.g, neg, A, n, c, l⟩).map VE.g = vs.map VE.g := by
    rw [List.map_set]
    refine List.ext_getElem? fun k => ?_
    by_cases hk : i = k
    · subst hk
      rw [List.getElem?_set_self (by simpa using hilt), List.getElem?_map, hi]; rfl
    · rw [List.getElem?_set_ne hk]
  refine ⟨⟨(hE.1.setCell (by exact (h.2.1 v0 hm0).1) _).setCell (by exact (h.2.1 v0 hm0).1) _, fun v hv => ?_, by rw [hmap]; exact hnd⟩, fun v hv hne b o e => ?_⟩
  · obtain ⟨k, hk, rfl⟩ := List.getElem_of_mem hv
    rw [List.length_set] at hk
    by_cases hki : i = k
    · subst hki
      rw [List.getElem_set_self]
      refine ⟨(h.2.1 v0 hm0).1, Bx.set (hE.x hm0) _ _, hsl (Own.sl ho hd hl) (fun _ => hAne v0 hm0), fun _ u hu b o e => ?_⟩
      obtain ⟨u', hu', e2⟩ := hmemg u hu
      rw [← e2]; exact hAne u' hu' b o e
    · rw [List.getElem_set_ne hki]
      have hvm : vs[k] ∈ vs := List.getElem_mem _
      have hg : vs[k].g ≠ v0.g := by
        intro e
        have h1 : (vs.map VE.g)[k]'(by simpa using hk) = (vs.map VE.g)[i]'(by simpa using hilt) := by
          rw [List.getElem_map, List.getElem_map]
          have : vs[i] = v0 := by rw [List.getElem?_eq_getElem hilt] at hi; exact Option.some.inj hi
          rw [this]; exact e
        have h2 := (List.getElem_inj (h := hnd) (i := k) (j := i) (h₀ := by simpa using hk) (h₁ := by simpa using hilt)).1 h1
        exact hki h2.symm
      refine ⟨(h.2.1 _ hvm).1, Bx.far (Bx.far (hE.x hvm) (p := ⟨v0.g, 0, none⟩) hg _) (p := ⟨v0.g, 1, none⟩) hg _, hsl (hE.s hvm) (fun hne => (hE.2.1 _ hvm).2.2.2 hne v0 hm0), fun hne u hu b o e => ?_⟩
      obtain ⟨u', hu', e2⟩ := hmemg u hu
      rw [← e2]; exact (hE.2.1 _ hvm).2.2.2 hne u' hu' b o e
  · rw [hwz]
    rcases List.mem_or_eq_of_mem_set hv with hv | rfl
    · exact Nat.lt_of_lt_of_le (hold v hv hne b o e) hz
    · exact (own_block ho e).2
end
end Go.Proofs.Ytggdmhkdmkldoaa
