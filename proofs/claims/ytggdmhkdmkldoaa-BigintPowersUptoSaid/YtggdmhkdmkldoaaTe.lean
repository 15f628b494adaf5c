import Derived.Test.YtggdmhkdmkldoaaTd
namespace Go.Proofs.Ytggdmhkdmkldoaa
open Go.RowKit Hb
set_option linter.unusedVariables false
set_option linter.unusedSimpArgs false

/-! ### the calls of the law of division -/
def Ans2Post (w : World) (z1 z2 code : Int) (e : Ending) (w' : World) : Prop :=
  ∃ neg A n c l neg2 A2 n2 c2 l2, e = .returned (.tuple #[.agg #[.bool neg, .slice A n c], .agg #[.bool neg2, .slice A2 n2 c2], .int .i64 code]) ∧ OwnU w' w.heap.size A n c (u32s l) ∧ OwnU w' w.heap.size A2 n2 c2 (u32s l2) ∧
    Good z1 code neg A n c l ∧ Good z2 code neg2 A2 n2 c2 l2 ∧ (∀ g, A = some ⟨g, 0, none⟩ → A2 ≠ some ⟨g, 0, none⟩) ∧ Below w.heap.size w w'
theorem Apart.ne {A A2 : Option Addr} {n c n2 c2 : Nat} {b b2 : Value} (h : Apart (.agg #[b, .slice A n c]) (.agg #[b2, .slice A2 n2 c2])) : ∀ g, A = some ⟨g, 0, none⟩ → A2 ≠ some ⟨g, 0, none⟩ :=
  fun g e e2 => h g ⟨b, 0, n, c, by rw [e]⟩ ⟨b2, 0, n2, c2, by rw [e2]⟩
theorem QRPost.ans2 {w w' : World} {z1 z2 code : Int} {e : Ending} (h : QRPost w z1 z2 code e w') : Ans2Post w z1 z2 code e w' := by
  obtain ⟨v1, v2, he, h0, h1, hb⟩ := h
  by_cases hc : code = 0
  · obtain ⟨⟨A, c, rfl, ho⟩, ⟨A2, c2, rfl, ho2⟩, hap⟩ := h0 hc
    exact ⟨_, A, _, c, _, _, A2, _, c2, _, he, ho, ho2, ⟨fun _ => ⟨rfl, rfl⟩, fun h => absurd hc h⟩, ⟨fun _ => ⟨rfl, rfl⟩, fun h => absurd hc h⟩, Apart.ne hap, hb⟩
  · obtain ⟨rfl, rfl⟩ := h1 hc
    exact ⟨false, none, 0, 0, [], false, none, 0, 0, [], he, own_nilU _ _, own_nilU _ _, ⟨fun h => absurd h hc, fun _ => ⟨rfl, rfl⟩⟩, ⟨fun h => absurd h hc, fun _ => ⟨rfl, rfl⟩⟩, (fun g e => by cases e), hb⟩
section
variable {w : World} {A A' : Option Addr} {n c n' c' : Nat} {l m : List Nat} {na nb : Bool} {x y q r E : Int}
theorem QuoRem_we (hE : (if (tooLong x || tooLong y) = true then 10 else if y = 0 then 11 else 0) = E) (hs : SlU w w.heap.size A n c l) (ht : SlU w w.heap.size A' n' c' m) (hn : n ≤ 1048576) (hn' : n' ≤ 1048576) (hx : ival na l = x) (hy : ival nb m = y) (hq : x.tdiv y = q) (hr : x.tmod y = r) :
    Calls Try.prog 20 #[.agg #[.bool na, .slice A n c], .agg #[.bool nb, .slice A' n' c']] w (Ans2Post w q r E) := by
  have h := QuoRem_any na nb hs ht (by omega) (by omega) (Nat.le_refl _) (Nat.le_refl _)
  rw [hx, hy, lng_ival hx, lng_ival hy, hq, hr, hE] at h
  exact h.mono fun _ _ h => h.ans2
theorem DivMod_we (hE : dvCode (tooLong x || tooLong y) x y = E) (hs : SlU w w.heap.size A n c l) (ht : SlU w w.heap.size A' n' c' m) (hn : n ≤ 1048576) (hn' : n' ≤ 1048576) (hx : ival na l = x) (hy : ival nb m = y) (hq : dvD x y = q) (hr : dvM x y = r) :
    Calls Try.prog 21 #[.agg #[.bool na, .slice A n c], .agg #[.bool nb, .slice A' n' c']] w (Ans2Post w q r E) := by
  have h := DivMod_any na nb hs ht (by omega) (by omega) (Nat.le_refl _) (Nat.le_refl _)
  rw [hx, hy, lng_ival hx, lng_ival hy, hq, hr, hE] at h
  exact h.mono fun _ _ h => h.ans2
end
theorem Long_w {q : Int} (h : tooLong q = false) (s : Bool) (A : Option Addr) (c : Nat) (w : World) :
    Calls Try.prog 24 #[.agg #[.bool s, .slice A (digs 2 q.natAbs).length c]] w (LongPost false w) := by
  have h2 := rLong_any s A (digs 2 q.natAbs).length c w
  rwa [rlng_digs, h] at h2
theorem long_mono {a b : Int} (h : a.natAbs ≤ b.natAbs) (hb : tooLong b = false) : tooLong a = false := by
  rw [tooLong, decide_eq_false_iff_not] at hb ⊢
  have := blen_mono h
  omega
theorem dvD_abs {x y : Int} (hy : y ≠ 0) : (dvD x y).natAbs ≤ x.natAbs := by
  have hs := dm_sum x y
  have hm := m_abs (x := x) hy
  rcases m_cases (x := x) hy with ⟨_, e, _, _⟩ | ⟨_, e, em, h0, hs2⟩
  · rw [e]; exact tdiv_abs x y
  · have h1 := tdiv_abs x y
    have h2 := qr_sum x y
    -- one less than the quotient: the remainder is not nought
    rw [e]
    have h4 := Int.natAbs_tdiv x y
    have h3 : (x.tdiv y).natAbs < x.natAbs ∨ x.natAbs ≤ (x.tdiv y).natAbs := by omega
    rcases h3 with h3 | h3
    · omega
    · have h5 : (x.tdiv y).natAbs = x.natAbs := by omega
      exfalso
      have h6 : x.tmod y = 0 := by
        by_cases hx : x.natAbs = 0
        · have : x = 0 := by omega
          rw [this]; simp
        · have h7 : x.natAbs / y.natAbs = x.natAbs := h4.symm.trans h5
          have h8 : y.natAbs = 1 := by
            rcases (by omega : y.natAbs = 0 ∨ y.natAbs = 1 ∨ 2 ≤ y.natAbs) with e0 | e1 | e2
            · omega
            · exact e1
            · have := Nat.div_lt_self (n := x.natAbs) (by omega) (show 1 < y.natAbs by omega)
              omega
          rcases (by omega : y = 1 ∨ y = -1) with rfl | rfl
          · simp
          · simp
      exact h0 h6
theorem len_zero {y : Int} : (digs 2 y.natAbs).length = 0 ↔ y = 0 := by
  constructor
  · intro h
    have h9 := nv_digs (b := 2) (by decide) y.natAbs
    rw [List.length_eq_zero_iff.1 h] at h9
    have : (0 : Nat) = y.natAbs := h9
    omega
  · rintro rfl; rw [show (0 : Int).natAbs = 0 from rfl, digs_zero]; rfl
/-- two slices of a call's own -/
theorem Ev.own2 {w0 w w' : World} {ts : List Th} (h : Ev w0 w ts) (hb : Below w.heap.size w w') {t t2 : TypeId} {A A2 : Option Addr} {n c n2 c2 : Nat} {xs xs2 : List Value} (ho : Own t w' w.heap.size A n c xs) (ho2 : Own t2 w' w.heap.size A2 n2 c2 xs2)
    (hap : ∀ g, A = some ⟨g, 0, none⟩ → A2 ≠ some ⟨g, 0, none⟩) : Ev w0 w' (.own t A n c xs :: .own t2 A2 n2 c2 xs2 :: ts) := by
  have h1 := h.own hb ho2
  refine ⟨h1.1, fun u hu => ?_, List.Pairwise.cons (fun u hu b e1 e2 => ?_) h1.2.2⟩
  · rcases List.mem_cons.1 hu with rfl | hu
    · exact ⟨Own.mono ho h.1.size, fun b e => by
        rcases Own.form ho with ⟨h3, _⟩ | ⟨g, h3, h4, h5⟩
        · rw [Th.blk, h3] at e; cases e
        · rw [Th.blk, h3] at e; cases e; exact ⟨Nat.le_trans h.1.size h4, h5⟩⟩
    · exact h1.2.1 u hu
  · rcases Own.form ho with ⟨h3, _⟩ | ⟨g, h3, h4, h5⟩
    · rw [Th.blk, h3] at e1; cases e1
    · rw [Th.blk, h3] at e1; cases e1
      rcases List.mem_cons.1 hu with rfl | hu
      · rcases Own.form ho2 with ⟨h6, _⟩ | ⟨g2, h6, _⟩
        · rw [Th.blk, h6] at e2; cases e2
        · rw [Th.blk, h6] at e2
          have e3 : g2 = g := by simpa using e2
          subst e3
          exact hap g2 h3 h6
      · have h7 := ((h.2.1 u hu).2 _ e2).2
        have h8 : w.heap.size ≤ g := h4
        simp at h7
        omega
end Go.Proofs.Ytggdmhkdmkldoaa
