import Derived.Test.YtgfeainpeplphaaDoorHs
namespace Go.Proofs.YtgfeainpeplphaaDoor
open Go.RowKit Hb Ht
set_option linter.unusedVariables false
set_option linter.unusedSimpArgs false
attribute [local go_sem] Oper.semAt_some
/-! ### term.blank -/
set_option maxRecDepth 100000 in
set_option maxHeartbeats 4000000 in
theorem blank_any {k b v : Int} {n m : List UInt8} {ts : List Tm} {nb mb : ByteArray} {A : Option Addr} {L c : Nat} (hk : 1 ≤ k ∧ k ≤ 5) (hnb : (⟨n.toArray⟩ : ByteArray) = nb) (hmb : (⟨m.toArray⟩ : ByteArray) = mb) (hL : ts.length = L) (w : World) :
    Calls Tryd.prog 80 #[.agg #[.int .i64 k, .string nb, .string mb, .int .u64 b, .int .i64 v, .slice A L c]] w fun e w' => e = .returned (.bool (!stray (.mk k n m b v ts))) ∧ Below w.heap.size w w' := by
  have h5 : k = 1 ∨ k = 2 ∨ k = 3 ∨ k = 4 ∨ k = 5 := by omega
  obtain ⟨R, hR⟩ : ∃ R, (!stray (.mk k n m b v ts)) = R := ⟨_, rfl⟩
  rw [hR]
  have hn : nb.toList = n := by rw [ByteArray.toList_eq, ← hnb]
  have hm : mb.toList = m := by rw [ByteArray.toList_eq, ← hmb]
  unfold stray at hR
  simp only [Tm.k, Tm.n, Tm.m, Tm.b, Tm.v, Tm.as, hL, ← hn, ← hm] at hR
  have HR := Lib.hid hR
  clear hR hn hm hnb hmb hL hk
  rcases h5 with rfl | rfl | rfl | rfl | rfl
  · go_enter Tryd.func80, Tryd.ntmps80
    go_wp2
    all_goals
      go_ret
      have hR := HR.out
      refine ⟨?_, (Below.refl _ _).alloc (Nat.le_refl _) _⟩
      simp_all
      try (subst hR; by_cases h0 : L = 0 <;> simp [h0])
  · go_enter Tryd.func80, Tryd.ntmps80
    go_wp2
    all_goals
      go_ret
      have hR := HR.out
      refine ⟨?_, (Below.refl _ _).alloc (Nat.le_refl _) _⟩
      simp_all
      try (subst hR; by_cases h0 : L = 0 <;> simp [h0])
  · go_enter Tryd.func80, Tryd.ntmps80
    go_wp2
    all_goals
      go_ret
      have hR := HR.out
      refine ⟨?_, (Below.refl _ _).alloc (Nat.le_refl _) _⟩
      simp_all
      try (subst hR; by_cases h0 : L = 0 <;> simp [h0])
  · go_enter Tryd.func80, Tryd.ntmps80
    go_wp2
    all_goals
      go_ret
      have hR := HR.out
      refine ⟨?_, (Below.refl _ _).alloc (Nat.le_refl _) _⟩
      simp_all
      try (subst hR; by_cases h0 : L = 0 <;> simp [h0])
  · go_enter Tryd.func80, Tryd.ntmps80
    go_wp2
    all_goals
      go_ret
      have hR := HR.out
      refine ⟨?_, (Below.refl _ _).alloc (Nat.le_refl _) _⟩
      simp_all
      try (subst hR; by_cases h0 : L = 0 <;> simp [h0])
end Go.Proofs.YtgfeainpeplphaaDoor
