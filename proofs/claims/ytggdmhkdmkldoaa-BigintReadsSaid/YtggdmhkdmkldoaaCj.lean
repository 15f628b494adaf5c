import Derived.Test.YtggdmhkdmkldoaaCi
import Derived.Laws.AppendOwnNone
namespace Go.Proofs.Ytggdmhkdmkldoaa
open Go.RowKit Hb

def FewPost (w : World) (neg : Bool) (l : List Nat) (m : Nat) (e : Ending) (w' : World) : Prop :=
  ∃ A c, e = .returned (.agg #[.bool neg, .slice A m c]) ∧ OwnU w' w.heap.size A m c (u32s (l.take m)) ∧ Below w.heap.size w w'
/-- an append of what came in onto a row of the call's own -/
theorem wp_append_rd {o : Oper} {a : Act} {K : Act → World → Prop} {Q : Exit → Act → World → Prop} {w : World} (s x : Operand)
    (ho : o.op = .call { callee := .builtin .append, args := #[s, x], argTypes := #[22, 22] })
    {base B : Nat} {A A0 : Option Addr} {n0 c0 m c : Nat} {l0 l : List Nat} (hs : a.eval s = .slice A0 n0 c0) (hown : OwnU w base A0 n0 c0 (u32s l0)) (hx : a.eval x = .slice A m c) (hA : A = none → c = 0) (hrd : SlU w B A m c l)
    (hm : n0 + m ≤ 67108864) (hbase : base ≤ w.heap.size)
    (h : ∀ A' c' w', OwnU w' base A' (n0 + m) c' (u32s (l0 ++ l)) → Below base w w' → K (a.put o.dst (.slice A' (n0 + m) c')) w') : o.wp Try.prog a w K Q := by
  obtain ⟨i0, hi, hz0, hz1, hz2⟩ := info_parts infoU
  cases A with
  | none =>
    have hm0 : m = 0 := by
      rcases Nat.eq_zero_or_pos m with h0 | h0
      · exact h0
      · obtain ⟨b, o, h1, _⟩ := hrd.at_ h0; cases h1
    have hc0 := hA rfl
    subst hm0; subst hc0
    have hl : l = [] := List.length_eq_zero_iff.1 hrd.len
    subst hl
    have hrun := run_append_owned_none (P := Try.prog) (w := w) base 22 o.type 48 i0 1 Try.underlying22 hi _ n0 (u32s l0) hown
    unfold Oper.wp
    simp [execOp, ho, resolve, invoke, builtin, hs, hx, hrun, Result.andThen]
    exact h A0 c0 w (by rw [List.append_nil]; exact hown) (Below.refl _ _)
  | some ad =>
    refine wp_append_own w s x 22 ho base 48 i0 (.int .u32 0) 1 4 Try.underlying22 hi hz0 hz1 hz2 rfl (by decide) _ n0 (u32s l0) hs hown ad m c (u32s l) hx (by rw [u32s_length, hrd.len]; simp) ?_ (u32s_one l) (by simp [maxLen]; omega) (by omega) hbase ?_
    · intro j u hj
      have hj2 : j < m := by
        rw [← hrd.len, ← u32s_length l]
        exact (List.getElem?_eq_some_iff.1 hj).1
      obtain ⟨b, o', h1, _, hc⟩ := hrd.at_ (by omega)
      obtain rfl := Option.some.inj h1
      rw [addr_add, hc j hj2, ← u32s_get (by rw [hrd.len]; exact hj2), hj]
    · intro v' w' hown' hg hv
      have hf : ∃ A' c', v' = .slice A' (n0 + m) c' := by
        rcases hown'.2 with ⟨h1, h2⟩ | ⟨g', cap, cur, h1, _⟩
        · exact ⟨none, 0, by rw [h1, h2]⟩
        · exact ⟨_, _, h1⟩
      obtain ⟨A', c', rfl⟩ := hf
      refine h A' c' w' (by have h3 := hown'; rw [u32s_append] at h3; exact h3) ⟨hg.os, hg.tape, hg.output, hg.size, fun j hj => hg.block j (by omega) ?_⟩
      rcases Own.form hown with ⟨rfl, _⟩ | ⟨g', rfl, h4, _⟩
      · simp [Value.ownBlock]
      · simp [Value.ownBlock]; omega
set_option maxRecDepth 100000 in
set_option maxHeartbeats 2000000 in
theorem few_any (neg : Bool) {B : Nat} {A : Option Addr} {l : List Nat} {n c : Nat} {w : World} (hs : SlU w B A n c l) (hA : A = none → c = 0) (hB : B ≤ w.heap.size) (k : Nat) (hk : k ≤ 1000) :
    Calls Try.prog 31 #[.agg #[.bool neg, .slice A n c], .int .i64 (k : Int)] w (FewPost w neg l (min k n)) := by
  have HB := Lib.hid (Below.refl w.heap.size w)
  have hcap := hs.cap
  have hmx := hs.max
  unfold maxLen at hmx
  obtain ⟨m, hm⟩ : ∃ m, min k n = m := ⟨_, rfl⟩
  rw [hm]
  have HT := Lib.hid (fun w1 (hb : Below w.heap.size w w1) => And.intro ((hs.take (k := m) (by omega)).below (C := w.heap.size) hb hB) (Nat.le_trans hB hb.size))
  have HA := Lib.hid hA
  have hk0 : (0 : Int) ≤ (k : Int) := by omega
  have hmn : (m : Int) ≤ (n : Int) := by omega
  have hm0 : (0 : Int) ≤ (m : Int) := by omega
  have hmc : (m : Int) ≤ (c : Int) := by omega
  have hm9 : m ≤ 1000 := by omega
  have hmi : min (k : Int) (n : Int) = (m : Int) := by omega
  clear hs hA hm
  go_enter Try.func31, Try.ntmps31
  go_wp2_with fail
  refine wp_region_wait (fun w' => w'.cell? ⟨w.heap.size, 0, none⟩ = some (.bool neg) ∧ w'.cell? ⟨w.heap.size, 1, none⟩ = some (.slice A n c)) 13 (by kernel_rfl) ?_
  have hb0 := (Bx.new w (.bool neg) (.slice A n c)).alloc (.cells #[.bool false, .slice none 0 0] 24)
  have hb1 : Bx ((w.alloc (.cells #[.bool neg, .slice A n c] 24)).alloc (.cells #[.bool false, .slice none 0 0] 24)) (w.heap.size + 1) (.bool false) (.slice none 0 0) := by have := Bx.new (w.alloc (.cells #[.bool neg, .slice A n c] 24)) (.bool false) (.slice none 0 0); simpa only [World.size_alloc] using this
  have HB2 := Lib.hid ((HB.out.alloc (Nat.le_refl _) (.cells #[.bool neg, .slice A n c] 24)).alloc (by simp) (.cells #[.bool false, .slice none 0 0] 24))
  have hz2 : ((w.alloc (.cells #[.bool neg, .slice A n c] 24)).alloc (.cells #[.bool false, .slice none 0 0] 24)).heap.size = w.heap.size + 1 + 1 := by simp
  generalize ((w.alloc (.cells #[.bool neg, .slice A n c] 24)).alloc (.cells #[.bool false, .slice none 0 0] 24)) = w2 at *
  obtain ⟨a0, a1, _, _⟩ := hb0.facts
  have HX0 := Lib.hid hb0
  have HX1 := Lib.hid hb1
  clear hb0 hb1
  refine wpAnyW_take 13 (i := 0) (v := .pointer (some ⟨w.heap.size, 0, none⟩)) rfl (by kernel_rfl) (by kernel_rfl) (by kernel_rfl) (by kernel_rfl) (fun _ _ _ h => h) (Or.inl ⟨by rfl, fun w5 hSw => by go_simp⟩) ⟨a0, a1⟩ ?_
  refine wpAnyW_take 13 (i := 1) (v := .bool neg) rfl (by kernel_rfl) (by kernel_rfl) (by kernel_rfl) (by kernel_rfl) (fun _ _ _ h => h) (Or.inl ⟨by rfl, fun w5 hSw => by go_simp⟩) ⟨a0, a1⟩ ?_
  refine wpAnyW_take 13 (i := 3) (v := .pointer (some ⟨w.heap.size, 1, none⟩)) rfl (by kernel_rfl) (by kernel_rfl) (by kernel_rfl) (by kernel_rfl) (fun _ _ _ h => h) (Or.inl ⟨by rfl, fun w5 hSw => by go_simp⟩) ⟨a0, a1⟩ ?_
  refine wpAnyW_take 13 (i := 4) (v := .slice A n c) rfl (by kernel_rfl) (by kernel_rfl) (by kernel_rfl) (by kernel_rfl) (fun _ _ _ h => h) (Or.inl ⟨by rfl, fun w5 hSw => by go_simp⟩) ⟨a0, a1⟩ ?_
  refine wpAnyW_take 13 (i := 5) (v := .int .i64 (k : Int)) rfl (by kernel_rfl) (by kernel_rfl) (by kernel_rfl) (by kernel_rfl) (fun _ _ _ h => h) (Or.inl ⟨by rfl, fun w5 hSw => by go_simp⟩) ⟨a0, a1⟩ ?_
  refine wpAnyW_take 13 (i := 6) (v := .pointer (some ⟨w.heap.size, 1, none⟩)) rfl (by kernel_rfl) (by kernel_rfl) (by kernel_rfl) (by kernel_rfl) (fun _ _ _ h => h) (Or.inl ⟨by rfl, fun w5 hSw => by go_simp⟩) ⟨a0, a1⟩ ?_
  refine wpAnyW_take 13 (i := 7) (v := .slice A n c) rfl (by kernel_rfl) (by kernel_rfl) (by kernel_rfl) (by kernel_rfl) (fun _ _ _ h => h) (Or.inl ⟨by rfl, fun w5 hSw => by go_simp⟩) ⟨a0, a1⟩ ?_
  refine wpAnyW_take 13 (i := 8) (v := .int .i64 (n : Int)) rfl (by kernel_rfl) (by kernel_rfl) (by kernel_rfl) (by kernel_rfl) (fun _ _ _ h => h) (Or.inl ⟨by rfl, fun w5 hSw => by go_simp⟩) ⟨a0, a1⟩ ?_
  refine wpAnyW_take 13 (i := 9) (v := .int .i64 (m : Int)) rfl (by kernel_rfl) (by kernel_rfl) (by kernel_rfl) (by kernel_rfl) (fun _ _ _ h => h) (Or.inl ⟨by rfl, fun w5 hSw => by go_simp⟩) ⟨a0, a1⟩ ?_
  refine wpAnyW_take 13 (i := 10) (v := .slice A m c) rfl (by kernel_rfl) (by kernel_rfl) (by kernel_rfl) (by kernel_rfl) (fun _ _ _ h => h) (Or.inl ⟨by rfl, fun w5 hSw => by go_simp⟩) ⟨a0, a1⟩ ?_
  refine wpAnyW_one (i := 2) (by kernel_rfl) rfl (fun K hK => ?_)
  go_simp
  have S2 := (HX0.out.alloc (.cells #[] 48)).drew.facts
  refine hK.out _ _ (fun _ => ⟨S2.1, S2.2.1⟩) ?_
  refine wpAnyW_one (i := 11) (by kernel_rfl) rfl (fun K hK => ?_)
  rw [if_pos (by rfl)]
  have ho0 : OwnU (w2.alloc (.cells #[] 48)) w2.heap.size (some ⟨w2.heap.size, 0, none⟩) 0 0 (u32s []) := Own.of_block (xs := []) (by exact heap_alloc_new w2 _) (Nat.le_refl _) (by simp [maxLen])
  have HB3 := (HB2.out.alloc (by omega) (.cells #[] 48)).drew
  refine wp_append_rd (base := w2.heap.size) (l0 := []) (l := l.take m) (A0 := some ⟨w2.heap.size, 0, none⟩) (n0 := 0) (c0 := 0) _ _ (by rfl) (by rw [hz2]; rfl) ho0 (by rfl) HA.out (HT.out _ HB3).1 (by first | omega | (simp; done) | (simp; omega)) (by first | omega | (simp; done) | (simp; omega)) ?_
  intro A' c' w4 ho4 hb4
  rw [Nat.zero_add] at ho4 ⊢
  have K24 : Below w2.heap.size w2 w4 := ((Below.refl w2.heap.size w2).alloc (Nat.le_refl _) (.cells #[] 48)).drew.trans hb4
  have hl0 := HX0.out.lt
  have hl1 := HX1.out.lt
  have S4 := (HX0.out.below K24 hl0).facts
  have T4 := (HX1.out.below K24 hl1).facts
  have HB4 := Lib.hid (HB2.out.trans (K24.mono (B' := w.heap.size) (by omega)))
  have HO4 := Lib.hid (show OwnU w4 w2.heap.size A' m c' (u32s (l.take m)) from ho4)
  clear S2 hb4 K24 HB3 ho0 a0 a1 ho4
  refine hK.out _ _ (fun _ => ⟨S4.1, S4.2.1⟩) ?_
  refine wpAnyW_one (i := 12) (by kernel_rfl) rfl (fun K hK => ?_)
  go_simp
  refine hK.out _ _ (fun _ => ⟨S4.1, S4.2.1⟩) ?_
  refine wpAnyW_one (i := 13) (by kernel_rfl) rfl (fun K hK => ?_)
  obtain ⟨t0, t1, t2, t3⟩ := T4
  clear S4
  go_simp
  refine hK.out _ _ (fun h => absurd h (by simp)) ?_
  refine wpAnyW_done (by kernel_rfl) ?_ _
  go_wp2
  exact bodyPost_ret (v := .agg #[.bool neg, .slice A' m c']) (by simp [results, Try.results31, go_sem, t0, t1]) rfl
    ⟨A', c', rfl, Own.mono (Own.farB (Own.farB HO4.out (by first | omega | (simp; done) | (simp; omega)) _) (by first | omega | (simp; done) | (simp; omega)) _) (by first | omega | (simp; done) | (simp; omega)), (HB4.out.setCell (by first | omega | (simp; done) | (simp; omega)) _).setCell (by first | omega | (simp; done) | (simp; omega)) _⟩
end Go.Proofs.Ytggdmhkdmkldoaa
