import Derived.Test.YtggdmhkdmkldoaaBw
namespace Go.Proofs.Ytggdmhkdmkldoaa
open Go.RowKit Hb

theorem wp_region_drew {P : Program} {ops : Array Oper} {Q : Exit → Act → World → Prop} {id : Nat} {a : Act} {w : World} (hm : P.follows .mixedOrders = true)
    (h : wpAny P .any ops Q ops.size (Array.replicate ops.size false) a w.drew) : (Code.region id ops true).wp P Q a w := wp_region_any hm h

set_option maxRecDepth 100000 in
set_option maxHeartbeats 1000000 in
theorem DivMod_bad (na nb : Bool) {B B' : Nat} {A A' : Option Addr} {l m : List Nat} {n c n' c' : Nat} {w : World} (hs : SlU w B A n c l) (ht : SlU w B' A' n' c' m) (hn : n ≤ 67108860) (hn' : n' ≤ 67108860) (hB : B ≤ w.heap.size) (hB' : B' ≤ w.heap.size)
    (hbad : (lng l || lng m) = true ∨ ival nb m = 0) :
    Calls Try.prog 21 #[.agg #[.bool na, .slice A n c], .agg #[.bool nb, .slice A' n' c']] w (QRPost w (dvD (ival na l) (ival nb m)) (dvM (ival na l) (ival nb m)) (dvCode (lng l || lng m) (ival na l) (ival nb m))) := by
  have HQ := Lib.hid (fun w1 (hb : Below w.heap.size w w1) => QuoRem_any na nb (hs.below (C := w.heap.size) hb hB) (ht.below (C := w.heap.size) hb hB') (by omega) (by omega) (Nat.le_trans hB hb.size) (Nat.le_trans hB' hb.size))
  have HB := Lib.hid (Below.refl w.heap.size w)
  have hcc : dvCode (lng l || lng m) (ival na l) (ival nb m) = (if lng l || lng m then 10 else if ival nb m = 0 then 11 else 0) := by
    unfold dvCode
    rcases hbad with h | h
    · rw [h]; rfl
    · rw [if_pos h, if_pos h]
  have hnz : (if lng l || lng m then (10 : Int) else if ival nb m = 0 then 11 else 0) ≠ 0 := by
    rcases hbad with h | h
    · rw [h, if_pos rfl]; decide
    · rw [if_pos h]; split <;> decide
  rw [hcc]
  generalize (if lng l || lng m then (10 : Int) else if ival nb m = 0 then 11 else 0) = co at *
  have hco : (co == 0) = false := beq_eq_false_iff_ne.2 hnz
  generalize dvD (ival na l) (ival nb m) = D at *
  generalize dvM (ival na l) (ival nb m) = M at *
  have HNZ := Lib.hid hnz
  clear hcc hbad hs ht hn hn' hB hB' hnz
  go_enter Try.func21, Try.ntmps21
  go_wp2_with fail
  refine (HQ.out _ ?_).mono ?_
  · exact ((((HB.out.alloc (Nat.le_refl _) _).alloc (by first | omega | (simp; done) | (simp; omega)) _).alloc (by first | omega | (simp; done) | (simp; omega)) _).alloc (by first | omega | (simp; done) | (simp; omega)) _)
  rintro ex w1 ⟨v1, v2, rfl, _, hr, hb1⟩
  obtain ⟨rfl, rfl⟩ := hr HNZ.out
  have HBx := Lib.hid (And.intro (Bx.below (g := w.heap.size + 1 + 1) (x := .bool false) (y := .slice none 0 0) (by have := Bx.new (((w.alloc (.cells #[.bool na, .slice A n c] 24)).alloc (.cells #[.bool nb, .slice A' n' c'] 24))) (.bool false) (.slice none 0 0); simp only [World.size_alloc] at this; exact this.alloc _) hb1 (by simp)) (Bx.below (g := w.heap.size + 1 + 1 + 1) (x := .bool false) (y := .slice none 0 0) (by have := Bx.new ((((w.alloc (.cells #[.bool na, .slice A n c] 24)).alloc (.cells #[.bool nb, .slice A' n' c'] 24))).alloc (.cells #[.bool false, .slice none 0 0] 24)) (.bool false) (.slice none 0 0); simp only [World.size_alloc] at this; exact this) hb1 (by simp)))
  have hz1 := hb1.size
  simp at hz1
  have H1 := Lib.hid ((((HB.out.alloc (Nat.le_refl _) (.cells #[.bool na, .slice A n c] 24)).alloc (by simp) (.cells #[.bool nb, .slice A' n' c'] 24)).alloc (by first | omega | (simp; done) | (simp; omega)) (.cells #[.bool false, .slice none 0 0] 24)).alloc (by first | omega | (simp; done) | (simp; omega)) (.cells #[.bool false, .slice none 0 0] 24) |>.trans (hb1.mono (B' := w.heap.size) (by first | omega | (simp; done) | (simp; omega))))
  clear hr hb1
  go_wp2_with fail
  refine wp_region_drew (by kernel_rfl) ?_
  refine wpAny_one (i := 0) (by kernel_rfl) rfl (fun K hK => ?_)
  go_simp
  refine hK.out _ _ ?_
  refine wpAny_one (i := 1) (by kernel_rfl) rfl (fun K hK => ?_)
  go_simp
  refine hK.out _ _ ?_
  refine wpAny_one (i := 2) (by kernel_rfl) rfl (fun K hK => ?_)
  go_simp
  refine hK.out _ _ ?_
  refine wpAny_skip (i := 3) rfl (by kernel_rfl) (by kernel_rfl) (by kernel_rfl) (fun _ _ _ h => h) (by rfl) ?_
  refine wpAny_skip (i := 4) rfl (by kernel_rfl) (by kernel_rfl) (by kernel_rfl) (fun _ _ _ h => h) (by rfl) ?_
  refine wpAny_skip (i := 5) rfl (by kernel_rfl) (by kernel_rfl) (by kernel_rfl) (fun _ _ _ h => h) (by rfl) ?_
  refine wpAny_one (i := 6) (by kernel_rfl) rfl (fun K hK => ?_)
  go_simp
  refine hK.out _ _ ?_
  refine wpAny_one (i := 7) (by kernel_rfl) rfl (fun K hK => ?_)
  go_simp
  refine hK.out _ _ ?_
  refine wpAny_skip (i := 8) rfl (by kernel_rfl) (by kernel_rfl) (by kernel_rfl) (fun _ _ _ h => h) (by rfl) ?_
  refine wpAny_skip (i := 9) rfl (by kernel_rfl) (by kernel_rfl) (by kernel_rfl) (fun _ _ _ h => h) (by rfl) ?_
  refine wpAny_skip (i := 10) rfl (by kernel_rfl) (by kernel_rfl) (by kernel_rfl) (fun _ _ _ h => h) (by rfl) ?_
  refine wpAny_skip (i := 11) rfl (by kernel_rfl) (by kernel_rfl) (by kernel_rfl) (fun _ _ _ h => h) (by rfl) ?_
  refine wpAny_skip (i := 12) rfl (by kernel_rfl) (by kernel_rfl) (by kernel_rfl) (fun _ _ _ h => h) (by rfl) ?_
  refine wpAny_skip (i := 13) rfl (by kernel_rfl) (by kernel_rfl) (by kernel_rfl) (fun _ _ _ h => h) (by rfl) ?_
  refine wpAny_one (i := 14) (by kernel_rfl) rfl (fun K hK => ?_)
  go_simp
  refine hK.out _ _ ?_
  refine wpAny_done (by kernel_rfl) ?_ _
  have BG := (Bx.alloc (Bx.new w1 (.bool false) (.slice none 0 0)) (.cells #[.bool false, .slice none 0 0] 24)).facts
  have BG1 := (Bx.new (w1.alloc (.cells #[.bool false, .slice none 0 0] 24)) (.bool false) (.slice none 0 0)).facts
  obtain ⟨r0, r1, r2, r3⟩ := ((HBx.out.1.alloc (.cells #[.bool false, .slice none 0 0] 24)).alloc (.cells #[.bool false, .slice none 0 0] 24)).facts
  obtain ⟨s0, s1, s2, s3⟩ := ((HBx.out.2.alloc (.cells #[.bool false, .slice none 0 0] 24)).alloc (.cells #[.bool false, .slice none 0 0] 24)).facts
  simp only [World.size_alloc] at BG1
  obtain ⟨a0, a1, a2, a3⟩ := BG
  obtain ⟨b0, b1, b2, b3⟩ := BG1
  have HT := Lib.hid ((H1.out.alloc (by omega) (.cells #[.bool false, .slice none 0 0] 24)).alloc (by simp; omega) (.cells #[.bool false, .slice none 0 0] 24))
  generalize hwT : ((w1.alloc (.cells #[.bool false, .slice none 0 0] 24)).alloc (.cells #[.bool false, .slice none 0 0] 24)) = wT at *
  clear hwT
  have n1 : ¬ (w.heap.size + 1 = w1.heap.size) := by omega
  have n2 : ¬ (w.heap.size + 1 + 1 = w1.heap.size) := by omega
  have n3 : ¬ (w.heap.size + 1 + 1 + 1 = w1.heap.size) := by omega
  have n4 : ¬ (w1.heap.size = w.heap.size + 1) := by omega
  have n5 : ¬ (w1.heap.size = w.heap.size + 1 + 1) := by omega
  have n6 : ¬ (w1.heap.size = w.heap.size + 1 + 1 + 1) := by omega
  go_wp2_with fail
  go_region
  all_goals
    go_wp2
    refine bodyPost_ret (v := .tuple #[zeroV, zeroV, .int .i64 co]) (by simp [results, Try.results21, go_sem, r0, r1, s0, s1]) rfl ?_
    refine QRPost.drew ?_
    first
      | exact QRPost.bad rfl HNZ.out ((((HT.out.setCell (by first | omega | (simp; done) | (simp; omega)) _).setCell (by first | omega | (simp; done) | (simp; omega)) _).setCell (by first | omega | (simp; done) | (simp; omega)) _).setCell (by first | omega | (simp; done) | (simp; omega)) _)
      | exact QRPost.bad rfl HNZ.out ((((HT.out.drew.setCell (by first | omega | (simp; done) | (simp; omega)) _).setCell (by first | omega | (simp; done) | (simp; omega)) _).setCell (by first | omega | (simp; done) | (simp; omega)) _).setCell (by first | omega | (simp; done) | (simp; omega)) _)
theorem DivMod_any (na nb : Bool) {B B' : Nat} {A A' : Option Addr} {l m : List Nat} {n c n' c' : Nat} {w : World} (hs : SlU w B A n c l) (ht : SlU w B' A' n' c' m) (hn : n ≤ 67108860) (hn' : n' ≤ 67108860) (hB : B ≤ w.heap.size) (hB' : B' ≤ w.heap.size) :
    Calls Try.prog 21 #[.agg #[.bool na, .slice A n c], .agg #[.bool nb, .slice A' n' c']] w (QRPost w (dvD (ival na l) (ival nb m)) (dvM (ival na l) (ival nb m)) (dvCode (lng l || lng m) (ival na l) (ival nb m))) := by
  by_cases hbad : (lng l || lng m) = true ∨ ival nb m = 0
  · exact DivMod_bad na nb hs ht hn hn' hB hB' hbad
  · have h1 : (lng l || lng m) = false := by cases h : (lng l || lng m) with
      | false => rfl
      | true => exact absurd (.inl h) hbad
    have h2 : ival nb m ≠ 0 := fun h => hbad (.inr h)
    cases hC : dvC (ival na l) (ival nb m) with
    | true => exact DivMod_turn na nb hs ht hn hn' hB hB' h1 h2 hC
    | false => exact DivMod_same na nb hs ht hn hn' hB hB' h1 h2 hC
end Go.Proofs.Ytggdmhkdmkldoaa
