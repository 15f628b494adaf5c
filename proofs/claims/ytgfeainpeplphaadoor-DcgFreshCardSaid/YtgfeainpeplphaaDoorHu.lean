import Derived.Test.YtgfeainpeplphaaDoorHt
import Derived.Lib.ValidU
namespace Go.Proofs.YtgfeainpeplphaaDoor
open Go.RowKit Hb Ht
set_option linter.unusedVariables false
set_option linter.unusedSimpArgs false
attribute [local go_sem] Oper.semAt_some
/-! ### term.node -/
/-- utf8.ValidString answers in every world that goes on from w0 -/
def U0 (w0 : World) : Prop := ∀ w', Below w0.heap.size w0 w' → ∀ s : ByteArray, s.size ≤ maxLen → Calls Tryd.prog 81 #[.string s] w' fun e w'' => e = .returned (.bool (Lib.validD s.data.toList)) ∧ Below w'.heap.size w' w''
structure UOk (w0 w : World) : Prop where
  bel : Below w0.heap.size w0 w
  u0 : U0 w0
theorem UOk.below {w0 w w' : World} (h : UOk w0 w) (hb : Below w.heap.size w w') : UOk w0 w' := ⟨h.bel.trans (hb.mono h.bel.size), h.u0⟩
theorem UOk.go {w0 w : World} (h : UOk w0 w) {s : ByteArray} (hs : s.size ≤ maxLen) : Calls Tryd.prog 81 #[.string s] w fun e w'' => e = .returned (.bool (Lib.validD s.data.toList)) ∧ Below w.heap.size w w'' := h.u0 w h.bel s hs
abbrev oneP (t : Tm) : Int := one Lib.validD canonB floB t
abbrev errsP (t : Tm) : Int := errs Lib.validD canonB floB t
abbrev checkP (t : Tm) : Int := check Lib.validD canonB floB t
set_option maxRecDepth 100000 in
set_option maxHeartbeats 8000000 in
theorem node_any {w0 w : World} {t : Tm} {sl : Value} (h : TAt w w.heap.size t sl) (hU : UOk w0 w) : Calls Tryd.prog 77 #[valT t sl] w fun e w' => e = .returned (.int .i64 (oneP t)) ∧ Below w.heap.size w w' := by
  obtain ⟨k, nl, ml, b, v, ts, nb, mb, A, c, rfl, rfl, hnb, hmb, hl1, hl2, hl3, hv, hs1, hs2⟩ := h.letters
  have hok := h.ok
  obtain ⟨L, hL⟩ : ∃ L, ts.length = L := ⟨_, rfl⟩
  rw [hv]
  rw [hL] at h hl1 hl3 ⊢
  obtain ⟨W1, hW1⟩ : ∃ W1, w.alloc (.cells #[.int .i64 k, .string nb, .string mb, .int .u64 b, .int .i64 v, .slice A L c] 25) = W1 := ⟨_, rfl⟩
  have hb1 : Below w.heap.size w W1 := by rw [← hW1]; exact (Below.refl _ _).alloc (Nat.le_refl _) _
  have hX : TBox W1 w.heap.size (.mk k nl ml b v ts) (.slice A L c) := by rw [← hW1]; exact TBox.new w hnb hmb
  obtain ⟨x0, x1, x2, x3, x4, x5⟩ := hX.cells hnb hmb
  obtain ⟨S, hS⟩ : ∃ S, stray (.mk k nl ml b v ts) = S := ⟨_, rfl⟩
  obtain ⟨U, hUu⟩ : ∃ U, Lib.validD nl = U := ⟨_, rfl⟩
  obtain ⟨C, hC⟩ : ∃ C, canonB ml = C := ⟨_, rfl⟩
  obtain ⟨F, hF⟩ : ∃ F, floB b = F := ⟨_, rfl⟩
  obtain ⟨N, hN⟩ : ∃ N, nl.length = N := ⟨_, rfl⟩
  obtain ⟨R, hR⟩ : ∃ R, oneP (.mk k nl ml b v ts) = R := ⟨_, rfl⟩
  rw [hR]
  have hsz : nb.size = N := by rw [← hN, ← hnb]; exact List.size_toArray
  have HR := Lib.hid (show (if k < 1 ∨ 5 < k ∨ S = true ∨ v < 0 ∨ (k = 5 ∧ (L = 0 ∨ 64 < L)) then (20 : Int) else if U = false ∨ 1000 < N then 21 else if k = 3 ∧ C = false then 22 else if k = 4 ∧ F = false then 23 else 0) = R from by
    rw [← hR, ← hS, ← hUu, ← hC, ← hF, ← hN, ← hL]
    rfl)
  have HBk := Lib.hid (fun hk : 1 ≤ k ∧ k ≤ 5 => show Calls Tryd.prog 80 #[.agg #[.int .i64 k, .string nb, .string mb, .int .u64 b, .int .i64 v, .slice A L c]] W1 (fun e w' => e = .returned (.bool (!S)) ∧ Below W1.heap.size W1 w') from by
    rw [← hS]; exact blank_any hk hnb hmb hL W1)
  have HUv := Lib.hid (fun (w' : World) (hb : Below W1.heap.size W1 w') => show Calls Tryd.prog 81 #[.string nb] w' (fun e w'' => e = .returned (.bool U) ∧ Below w'.heap.size w' w'') from by
    have h9 := ((hU.below hb1).below hb).go hs1
    rw [← hUu]
    have e : nb.data.toList = nl := by rw [← hnb]
    rw [e] at h9
    exact h9)
  have HIn := Lib.hid (fun (w' : World) => show Calls Tryd.prog 82 #[.string mb] w' (fun e w'' => e = .returned (.bool C) ∧ Below w'.heap.size w' w'') from by
    have h9 := integer_any mb w' hs2
    rw [← hC]
    have e : mb.data.toList = ml := by rw [← hmb]
    rw [e] at h9
    exact h9)
  have HX := Lib.hid (And.intro hb1 hX)
  have HM := Lib.hid (And.intro hnb hmb)
  have HOk := Lib.hid hok
  have HFf := Lib.hid hF
  have hNI : (N : Int) ≤ 9223372036854775807 := by rw [← hsz]; unfold maxLen at hs1; omega
  have hLI : (L : Int) ≤ 1759218604400 := by unfold maxArgs at hl3; omega
  subst hW1
  clear h hU hv hok hb1 hX hS hUu hC hF hN hR hnb hmb hL
  by_cases hk1 : k < 1
  · have HE := Lib.hid (show (20 : Int) = R by rw [← HR.out, if_pos (.inl hk1)])
    go_enter Tryd.func77, Tryd.ntmps77
    go_wp2
    go_ret
    exact ⟨by rw [← HE.out]; rfl, HX.out.1⟩
  by_cases hk5 : 5 < k
  · have HE := Lib.hid (show (20 : Int) = R by rw [← HR.out, if_pos (.inr (.inl hk5))])
    go_enter Tryd.func77, Tryd.ntmps77
    go_wp2
    go_ret
    exact ⟨by rw [← HE.out]; rfl, HX.out.1⟩
  have HK := Lib.hid (show 1 ≤ k ∧ k ≤ 5 from ⟨by omega, by omega⟩)
  cases S
  · by_cases hv0 : v < 0
    · have HE := Lib.hid (show (20 : Int) = R by rw [← HR.out]; rw [if_pos (.inr (.inr (.inr (.inl hv0))))])
      go_enter Tryd.func77, Tryd.ntmps77
      go_wp2_with (go_at_call 80; (with_reducible refine (HBk.out HK.out).mono ?_); rintro e w2 ⟨rfl, hb2⟩; obtain ⟨y0, y1, y2, y3, y4, y5⟩ := (HX.out.2.below hb2).cells HM.out.1 HM.out.2; have HX2 := Lib.hid (And.intro (HX.out.1.trans (hb2.mono HX.out.1.size)) (And.intro hb2 (HX.out.2.below hb2))); clear hb2)
      go_ret
      exact ⟨by rw [← HE.out]; rfl, HX2.out.1⟩
    by_cases h5 : k = 5
    · subst h5
      by_cases hL0 : L = 0
      · subst hL0
        have HE := Lib.hid (show (20 : Int) = R by rw [← HR.out]; rw [if_pos (.inr (.inr (.inr (.inr ⟨rfl, .inl rfl⟩))))])
        go_enter Tryd.func77, Tryd.ntmps77
        go_wp2_with (go_at_call 80; (with_reducible refine (HBk.out HK.out).mono ?_); rintro e w2 ⟨rfl, hb2⟩; obtain ⟨y0, y1, y2, y3, y4, y5⟩ := (HX.out.2.below hb2).cells HM.out.1 HM.out.2; have HX2 := Lib.hid (And.intro (HX.out.1.trans (hb2.mono HX.out.1.size)) (And.intro hb2 (HX.out.2.below hb2))); clear hb2)
        go_ret
        exact ⟨by rw [← HE.out]; rfl, HX2.out.1⟩
      have hL0I : ((L : Int) == 0) = false := beq_eq_false_iff_ne.2 (by omega)
      by_cases h64 : 64 < L
      · have h64I : (64 : Int) < (L : Int) := by omega
        have HE := Lib.hid (show (20 : Int) = R by rw [← HR.out]; rw [if_pos (.inr (.inr (.inr (.inr ⟨rfl, .inr h64⟩))))])
        go_enter Tryd.func77, Tryd.ntmps77
        go_wp2_with (go_at_call 80; (with_reducible refine (HBk.out HK.out).mono ?_); rintro e w2 ⟨rfl, hb2⟩; obtain ⟨y0, y1, y2, y3, y4, y5⟩ := (HX.out.2.below hb2).cells HM.out.1 HM.out.2; have HX2 := Lib.hid (And.intro (HX.out.1.trans (hb2.mono HX.out.1.size)) (And.intro hb2 (HX.out.2.below hb2))); clear hb2)
        go_ret
        exact ⟨by rw [← HE.out]; rfl, HX2.out.1⟩
      have h64I : ¬ (64 : Int) < (L : Int) := by omega
      have hcnd : ¬ ((5 : Int) < 1 ∨ (5 : Int) < 5 ∨ false = true ∨ v < 0 ∨ ((5 : Int) = 5 ∧ (L = 0 ∨ 64 < L))) := by simp; omega
      cases U
      · have HE := Lib.hid (show (21 : Int) = R by rw [← HR.out]; rw [if_neg hcnd, if_pos (.inl rfl)])
        go_enter Tryd.func77, Tryd.ntmps77
        go_wp2_with (first
          | (go_at_call 80; (with_reducible refine (HBk.out HK.out).mono ?_); rintro e w2 ⟨rfl, hb2⟩; obtain ⟨y0, y1, y2, y3, y4, y5⟩ := (HX.out.2.below hb2).cells HM.out.1 HM.out.2; have HX2 := Lib.hid (And.intro (HX.out.1.trans (hb2.mono HX.out.1.size)) (And.intro hb2 (HX.out.2.below hb2))); clear hb2)
          | (go_at_call 81; (with_reducible refine (HUv.out _ HX2.out.2.1).mono ?_); rintro e w3 ⟨rfl, hb3⟩; obtain ⟨z0, z1, z2, z3, z4, z5⟩ := (HX2.out.2.2.below hb3).cells HM.out.1 HM.out.2; have HX3 := Lib.hid (And.intro (HX2.out.1.trans (hb3.mono HX2.out.1.size)) (HX2.out.2.2.below hb3)); clear hb3))
        go_ret
        exact ⟨by rw [← HE.out]; rfl, HX3.out.1⟩
      · by_cases h1000 : 1000 < N
        · have h1I : (1000 : Int) < (N : Int) := by omega
          have HE := Lib.hid (show (21 : Int) = R by rw [← HR.out]; rw [if_neg hcnd, if_pos (.inr h1000)])
          clear h1000
          go_enter Tryd.func77, Tryd.ntmps77
          go_wp2_with (first
            | (go_at_call 80; (with_reducible refine (HBk.out HK.out).mono ?_); rintro e w2 ⟨rfl, hb2⟩; obtain ⟨y0, y1, y2, y3, y4, y5⟩ := (HX.out.2.below hb2).cells HM.out.1 HM.out.2; have HX2 := Lib.hid (And.intro (HX.out.1.trans (hb2.mono HX.out.1.size)) (And.intro hb2 (HX.out.2.below hb2))); clear hb2)
            | (go_at_call 81; (with_reducible refine (HUv.out _ HX2.out.2.1).mono ?_); rintro e w3 ⟨rfl, hb3⟩; obtain ⟨z0, z1, z2, z3, z4, z5⟩ := (HX2.out.2.2.below hb3).cells HM.out.1 HM.out.2; have HX3 := Lib.hid (And.intro (HX2.out.1.trans (hb3.mono HX2.out.1.size)) (HX2.out.2.2.below hb3)); clear hb3))
          go_ret
          exact ⟨by rw [← HE.out]; rfl, HX3.out.1⟩
        · have h1I : ¬ (1000 : Int) < (N : Int) := by omega
          have hU2 : ¬ (true = false ∨ 1000 < N) := fun h => h.elim (fun h => by cases h) h1000
          have HE := Lib.hid (show (0 : Int) = R by rw [← HR.out]; rw [if_neg hcnd, if_neg hU2, if_neg (fun h => absurd h.1 (by decide)), if_neg (fun h => absurd h.1 (by decide))])
          clear h1000 hU2
          go_enter Tryd.func77, Tryd.ntmps77
          go_wp2_with (first
            | (go_at_call 80; (with_reducible refine (HBk.out HK.out).mono ?_); rintro e w2 ⟨rfl, hb2⟩; obtain ⟨y0, y1, y2, y3, y4, y5⟩ := (HX.out.2.below hb2).cells HM.out.1 HM.out.2; have HX2 := Lib.hid (And.intro (HX.out.1.trans (hb2.mono HX.out.1.size)) (And.intro hb2 (HX.out.2.below hb2))); clear hb2)
            | (go_at_call 81; (with_reducible refine (HUv.out _ HX2.out.2.1).mono ?_); rintro e w3 ⟨rfl, hb3⟩; obtain ⟨z0, z1, z2, z3, z4, z5⟩ := (HX2.out.2.2.below hb3).cells HM.out.1 HM.out.2; have HX3 := Lib.hid (And.intro (HX2.out.1.trans (hb3.mono HX2.out.1.size)) (HX2.out.2.2.below hb3)); clear hb3))
          go_ret
          exact ⟨by rw [← HE.out]; rfl, HX3.out.1⟩
    have hk5b : (k == 5) = false := beq_eq_false_iff_ne.2 h5
    have hcnd : ¬ (k < 1 ∨ 5 < k ∨ false = true ∨ v < 0 ∨ (k = 5 ∧ (L = 0 ∨ 64 < L))) := by simp; omega
    cases U
    · have HE := Lib.hid (show (21 : Int) = R by rw [← HR.out]; rw [if_neg hcnd, if_pos (.inl rfl)])
      go_enter Tryd.func77, Tryd.ntmps77
      go_wp2_with (first
        | (go_at_call 80; (with_reducible refine (HBk.out HK.out).mono ?_); rintro e w2 ⟨rfl, hb2⟩; obtain ⟨y0, y1, y2, y3, y4, y5⟩ := (HX.out.2.below hb2).cells HM.out.1 HM.out.2; have HX2 := Lib.hid (And.intro (HX.out.1.trans (hb2.mono HX.out.1.size)) (And.intro hb2 (HX.out.2.below hb2))); clear hb2)
        | (go_at_call 81; (with_reducible refine (HUv.out _ HX2.out.2.1).mono ?_); rintro e w3 ⟨rfl, hb3⟩; obtain ⟨z0, z1, z2, z3, z4, z5⟩ := (HX2.out.2.2.below hb3).cells HM.out.1 HM.out.2; have HX3 := Lib.hid (And.intro (HX2.out.1.trans (hb3.mono HX2.out.1.size)) (HX2.out.2.2.below hb3)); clear hb3))
      go_ret
      exact ⟨by rw [← HE.out]; rfl, HX3.out.1⟩
    · by_cases h1000 : 1000 < N
      · have h1I : (1000 : Int) < (N : Int) := by omega
        have HE := Lib.hid (show (21 : Int) = R by rw [← HR.out]; rw [if_neg hcnd, if_pos (.inr h1000)])
        clear h1000
        go_enter Tryd.func77, Tryd.ntmps77
        go_wp2_with (first
          | (go_at_call 80; (with_reducible refine (HBk.out HK.out).mono ?_); rintro e w2 ⟨rfl, hb2⟩; obtain ⟨y0, y1, y2, y3, y4, y5⟩ := (HX.out.2.below hb2).cells HM.out.1 HM.out.2; have HX2 := Lib.hid (And.intro (HX.out.1.trans (hb2.mono HX.out.1.size)) (And.intro hb2 (HX.out.2.below hb2))); clear hb2)
          | (go_at_call 81; (with_reducible refine (HUv.out _ HX2.out.2.1).mono ?_); rintro e w3 ⟨rfl, hb3⟩; obtain ⟨z0, z1, z2, z3, z4, z5⟩ := (HX2.out.2.2.below hb3).cells HM.out.1 HM.out.2; have HX3 := Lib.hid (And.intro (HX2.out.1.trans (hb3.mono HX2.out.1.size)) (HX2.out.2.2.below hb3)); clear hb3))
        go_ret
        exact ⟨by rw [← HE.out]; rfl, HX3.out.1⟩
      · have h1I : ¬ (1000 : Int) < (N : Int) := by omega
        have hU2 : ¬ (true = false ∨ 1000 < N) := fun h => h.elim (fun h => by cases h) h1000
        by_cases h3 : k = 3
        · subst h3
          cases C
          · have HE := Lib.hid (show (22 : Int) = R by rw [← HR.out]; rw [if_neg hcnd, if_neg hU2, if_pos ⟨rfl, rfl⟩])
            clear h1000 hU2
            go_enter Tryd.func77, Tryd.ntmps77
            go_wp2_with (first
              | (go_at_call 80; (with_reducible refine (HBk.out HK.out).mono ?_); rintro e w2 ⟨rfl, hb2⟩; obtain ⟨y0, y1, y2, y3, y4, y5⟩ := (HX.out.2.below hb2).cells HM.out.1 HM.out.2; have HX2 := Lib.hid (And.intro (HX.out.1.trans (hb2.mono HX.out.1.size)) (And.intro hb2 (HX.out.2.below hb2))); clear hb2)
              | (go_at_call 81; (with_reducible refine (HUv.out _ HX2.out.2.1).mono ?_); rintro e w3 ⟨rfl, hb3⟩; obtain ⟨z0, z1, z2, z3, z4, z5⟩ := (HX2.out.2.2.below hb3).cells HM.out.1 HM.out.2; have HX3 := Lib.hid (And.intro (HX2.out.1.trans (hb3.mono HX2.out.1.size)) (HX2.out.2.2.below hb3)); clear hb3)
              | (go_at_call 82; (with_reducible refine (HIn.out _).mono ?_); rintro e w4 ⟨rfl, hb4⟩; obtain ⟨q0, q1, q2, q3, q4, q5⟩ := (HX3.out.2.below hb4).cells HM.out.1 HM.out.2; have HX4 := Lib.hid (HX3.out.1.trans (hb4.mono HX3.out.1.size)); clear hb4))
            go_ret
            exact ⟨by rw [← HE.out]; rfl, HX4.out⟩
          · have HE := Lib.hid (show (0 : Int) = R by rw [← HR.out]; rw [if_neg hcnd, if_neg hU2, if_neg (fun h => by cases h.2), if_neg (fun h => absurd h.1 (by decide))])
            clear h1000 hU2
            go_enter Tryd.func77, Tryd.ntmps77
            go_wp2_with (first
              | (go_at_call 80; (with_reducible refine (HBk.out HK.out).mono ?_); rintro e w2 ⟨rfl, hb2⟩; obtain ⟨y0, y1, y2, y3, y4, y5⟩ := (HX.out.2.below hb2).cells HM.out.1 HM.out.2; have HX2 := Lib.hid (And.intro (HX.out.1.trans (hb2.mono HX.out.1.size)) (And.intro hb2 (HX.out.2.below hb2))); clear hb2)
              | (go_at_call 81; (with_reducible refine (HUv.out _ HX2.out.2.1).mono ?_); rintro e w3 ⟨rfl, hb3⟩; obtain ⟨z0, z1, z2, z3, z4, z5⟩ := (HX2.out.2.2.below hb3).cells HM.out.1 HM.out.2; have HX3 := Lib.hid (And.intro (HX2.out.1.trans (hb3.mono HX2.out.1.size)) (HX2.out.2.2.below hb3)); clear hb3)
              | (go_at_call 82; (with_reducible refine (HIn.out _).mono ?_); rintro e w4 ⟨rfl, hb4⟩; obtain ⟨q0, q1, q2, q3, q4, q5⟩ := (HX3.out.2.below hb4).cells HM.out.1 HM.out.2; have HX4 := Lib.hid (HX3.out.1.trans (hb4.mono HX3.out.1.size)); clear hb4))
            go_ret
            exact ⟨by rw [← HE.out]; rfl, HX4.out⟩
        by_cases h4 : k = 4
        · subst h4
          obtain ⟨B, rfl⟩ := Int.eq_ofNat_of_zero_le HOk.out.2.2.1.1
          have hB : B < 18446744073709551616 := by have := HOk.out.2.2.1.2; simp only [Tm.b] at this; omega
          have hfb := run_frombits B
          obtain ⟨G, hG⟩ : ∃ G, B % 9223372036854775808 = G := ⟨_, rfl⟩
          have hN0 := NaN_any B
          rw [hG] at hN0
          have hFl : F = (decide (G < 9218868437227405312) && decide (B ≠ 9223372036854775808)) := by rw [← HFf.out, ← hG]; rfl
          by_cases hn : 9218868437227405312 < G
          · rw [decide_eq_true hn] at hN0
            have HNa := Lib.hid hN0
            have hF0 : F = false := by rw [hFl, decide_eq_false (by omega)]; rfl
            have HE := Lib.hid (show (23 : Int) = R by rw [← HR.out]; rw [if_neg hcnd, if_neg hU2, if_neg (fun h => absurd h.1 (by decide)), if_pos ⟨rfl, hF0⟩])
            clear h1000 hU2 hN0 hFl hn hG hF0 hB
            go_enter Tryd.func77, Tryd.ntmps77
            go_wp2_with (first
              | (go_at_call 80; (with_reducible refine (HBk.out HK.out).mono ?_); rintro e w2 ⟨rfl, hb2⟩; obtain ⟨y0, y1, y2, y3, y4, y5⟩ := (HX.out.2.below hb2).cells HM.out.1 HM.out.2; have HX2 := Lib.hid (And.intro (HX.out.1.trans (hb2.mono HX.out.1.size)) (And.intro hb2 (HX.out.2.below hb2))); clear hb2)
              | (go_at_call 81; (with_reducible refine (HUv.out _ HX2.out.2.1).mono ?_); rintro e w3 ⟨rfl, hb3⟩; obtain ⟨z0, z1, z2, z3, z4, z5⟩ := (HX2.out.2.2.below hb3).cells HM.out.1 HM.out.2; have HX3 := Lib.hid (And.intro (HX2.out.1.trans (hb3.mono HX2.out.1.size)) (HX2.out.2.2.below hb3)); clear hb3)
              | (go_at_call 84; (with_reducible refine (HNa.out _).mono ?_); rintro e w5 ⟨rfl, rfl⟩))
            go_ret
            exact ⟨by rw [← HE.out]; rfl, HX3.out.1⟩
          · rw [decide_eq_false hn] at hN0
            have HNa := Lib.hid hN0
            have hI0 := Inf0_any B G hB hG (by omega)
            by_cases hi : G = 9218868437227405312
            · rw [decide_eq_true hi] at hI0
              have HIf := Lib.hid hI0
              have hF0 : F = false := by rw [hFl, decide_eq_false (by omega)]; rfl
              have HE := Lib.hid (show (23 : Int) = R by rw [← HR.out]; rw [if_neg hcnd, if_neg hU2, if_neg (fun h => absurd h.1 (by decide)), if_pos ⟨rfl, hF0⟩])
              clear h1000 hU2 hN0 hFl hn hG hF0 hI0 hi hB
              go_enter Tryd.func77, Tryd.ntmps77
              go_wp2_with (first
                | (go_at_call 80; (with_reducible refine (HBk.out HK.out).mono ?_); rintro e w2 ⟨rfl, hb2⟩; obtain ⟨y0, y1, y2, y3, y4, y5⟩ := (HX.out.2.below hb2).cells HM.out.1 HM.out.2; have HX2 := Lib.hid (And.intro (HX.out.1.trans (hb2.mono HX.out.1.size)) (And.intro hb2 (HX.out.2.below hb2))); clear hb2)
                | (go_at_call 81; (with_reducible refine (HUv.out _ HX2.out.2.1).mono ?_); rintro e w3 ⟨rfl, hb3⟩; obtain ⟨z0, z1, z2, z3, z4, z5⟩ := (HX2.out.2.2.below hb3).cells HM.out.1 HM.out.2; have HX3 := Lib.hid (And.intro (HX2.out.1.trans (hb3.mono HX2.out.1.size)) (HX2.out.2.2.below hb3)); clear hb3)
                | (go_at_call 84; (with_reducible refine (HNa.out _).mono ?_); rintro e w5 ⟨rfl, rfl⟩)
                | (go_at_call 85; (with_reducible refine (HIf.out _).mono ?_); rintro e w6 ⟨rfl, rfl⟩))
              go_ret
              exact ⟨by rw [← HE.out]; rfl, HX3.out.1⟩
            · rw [decide_eq_false hi] at hI0
              have HIf := Lib.hid hI0
              by_cases hb63 : B = 9223372036854775808
              · have hF0 : F = false := by rw [hFl, hb63]; simp
                have hbI : ((B : Int) == 9223372036854775808) = true := by rw [hb63]; rfl
                have HE := Lib.hid (show (23 : Int) = R by rw [← HR.out]; rw [if_neg hcnd, if_neg hU2, if_neg (fun h => absurd h.1 (by decide)), if_pos ⟨rfl, hF0⟩])
                clear h1000 hU2 hN0 hFl hn hG hF0 hI0 hi hB hb63
                go_enter Tryd.func77, Tryd.ntmps77
                go_wp2_with (first
                  | (go_at_call 80; (with_reducible refine (HBk.out HK.out).mono ?_); rintro e w2 ⟨rfl, hb2⟩; obtain ⟨y0, y1, y2, y3, y4, y5⟩ := (HX.out.2.below hb2).cells HM.out.1 HM.out.2; have HX2 := Lib.hid (And.intro (HX.out.1.trans (hb2.mono HX.out.1.size)) (And.intro hb2 (HX.out.2.below hb2))); clear hb2)
                  | (go_at_call 81; (with_reducible refine (HUv.out _ HX2.out.2.1).mono ?_); rintro e w3 ⟨rfl, hb3⟩; obtain ⟨z0, z1, z2, z3, z4, z5⟩ := (HX2.out.2.2.below hb3).cells HM.out.1 HM.out.2; have HX3 := Lib.hid (And.intro (HX2.out.1.trans (hb3.mono HX2.out.1.size)) (HX2.out.2.2.below hb3)); clear hb3)
                  | (go_at_call 84; (with_reducible refine (HNa.out _).mono ?_); rintro e w5 ⟨rfl, rfl⟩)
                  | (go_at_call 85; (with_reducible refine (HIf.out _).mono ?_); rintro e w6 ⟨rfl, rfl⟩))
                go_ret
                exact ⟨by rw [← HE.out]; rfl, HX3.out.1⟩
              · have hF0 : F = true := by rw [hFl, decide_eq_true (by omega), decide_eq_true hb63]; rfl
                have hbI : ((B : Int) == 9223372036854775808) = false := beq_eq_false_iff_ne.2 (by omega)
                have HE := Lib.hid (show (0 : Int) = R by rw [← HR.out]; rw [if_neg hcnd, if_neg hU2, if_neg (fun h => absurd h.1 (by decide)), if_neg (fun h => by rw [hF0] at h; cases h.2)])
                clear h1000 hU2 hN0 hFl hn hG hF0 hI0 hi hB hb63
                go_enter Tryd.func77, Tryd.ntmps77
                go_wp2_with (first
                  | (go_at_call 80; (with_reducible refine (HBk.out HK.out).mono ?_); rintro e w2 ⟨rfl, hb2⟩; obtain ⟨y0, y1, y2, y3, y4, y5⟩ := (HX.out.2.below hb2).cells HM.out.1 HM.out.2; have HX2 := Lib.hid (And.intro (HX.out.1.trans (hb2.mono HX.out.1.size)) (And.intro hb2 (HX.out.2.below hb2))); clear hb2)
                  | (go_at_call 81; (with_reducible refine (HUv.out _ HX2.out.2.1).mono ?_); rintro e w3 ⟨rfl, hb3⟩; obtain ⟨z0, z1, z2, z3, z4, z5⟩ := (HX2.out.2.2.below hb3).cells HM.out.1 HM.out.2; have HX3 := Lib.hid (And.intro (HX2.out.1.trans (hb3.mono HX2.out.1.size)) (HX2.out.2.2.below hb3)); clear hb3)
                  | (go_at_call 84; (with_reducible refine (HNa.out _).mono ?_); rintro e w5 ⟨rfl, rfl⟩)
                  | (go_at_call 85; (with_reducible refine (HIf.out _).mono ?_); rintro e w6 ⟨rfl, rfl⟩))
                go_ret
                exact ⟨by rw [← HE.out]; rfl, HX3.out.1⟩
        have hk3 : (k == 3) = false := beq_eq_false_iff_ne.2 h3
        have hk4 : (k == 4) = false := beq_eq_false_iff_ne.2 h4
        have HE := Lib.hid (show (0 : Int) = R by rw [← HR.out]; rw [if_neg hcnd, if_neg hU2, if_neg (fun h => h3 h.1), if_neg (fun h => h4 h.1)])
        clear h1000 hU2 h3 h4
        go_enter Tryd.func77, Tryd.ntmps77
        go_wp2_with (first
          | (go_at_call 80; (with_reducible refine (HBk.out HK.out).mono ?_); rintro e w2 ⟨rfl, hb2⟩; obtain ⟨y0, y1, y2, y3, y4, y5⟩ := (HX.out.2.below hb2).cells HM.out.1 HM.out.2; have HX2 := Lib.hid (And.intro (HX.out.1.trans (hb2.mono HX.out.1.size)) (And.intro hb2 (HX.out.2.below hb2))); clear hb2)
          | (go_at_call 81; (with_reducible refine (HUv.out _ HX2.out.2.1).mono ?_); rintro e w3 ⟨rfl, hb3⟩; obtain ⟨z0, z1, z2, z3, z4, z5⟩ := (HX2.out.2.2.below hb3).cells HM.out.1 HM.out.2; have HX3 := Lib.hid (And.intro (HX2.out.1.trans (hb3.mono HX2.out.1.size)) (HX2.out.2.2.below hb3)); clear hb3))
        go_ret
        exact ⟨by rw [← HE.out]; rfl, HX3.out.1⟩
  · have HE := Lib.hid (show (20 : Int) = R by rw [← HR.out, if_pos (.inr (.inr (.inl rfl)))])
    go_enter Tryd.func77, Tryd.ntmps77
    go_wp2_with (go_at_call 80; (with_reducible refine (HBk.out HK.out).mono ?_); rintro e w' ⟨rfl, hb3⟩; have HB3 := Lib.hid (HX.out.1.trans (hb3.mono HX.out.1.size)); clear hb3)
    go_ret
    exact ⟨by rw [← HE.out]; rfl, HB3.out⟩
end Go.Proofs.YtgfeainpeplphaaDoor
