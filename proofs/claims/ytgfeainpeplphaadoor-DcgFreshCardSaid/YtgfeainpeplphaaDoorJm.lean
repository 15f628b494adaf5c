import Derived.Test.YtgfeainpeplphaaDoorJg
import Derived.Recover
namespace Go.Proofs.YtgfeainpeplphaaDoor
open Go.RowKit Hb Ht
set_option linter.unusedVariables false
set_option linter.unusedSimpArgs false
/-! ### dcg.caught -/
set_option maxRecDepth 100000 in
set_option maxHeartbeats 4000000 in
theorem caught_idle (E : Nat) (w : World) :
    CallsD Tryd.prog 29 #[.pointer (some ⟨E, 0, none⟩)] .returning w fun e u' w' => e = .returned (.tuple #[]) ∧ u' = .returning ∧ w' = w := by
  refine callsD_of_wpS Tryd.func29 rfl fun c₀ cs hu => ?_
  apply wpS_seq
  apply wpS_region
  simp [wpOpsS, go_sem, recoverD, hu, Tryd.ntmps29, Exit.thenS]
  refine wpS_of_wp ?_
  rw [show (#[Value.pointer (some ⟨E, 0, none⟩)] ++ (Array.replicate 14 undef).setIfInBounds 4 Value.nilIface) = #[Value.pointer (some ⟨E, 0, none⟩), undef, undef, undef, undef, .nilIface, undef, undef, undef, undef, undef, undef, undef, undef, undef] from rfl]
  go_wp2
  cases c₀
  simp_all [bodyPostS, results, Tryd.results29]
set_option maxRecDepth 100000 in
set_option maxHeartbeats 4000000 in
theorem caught_throws (E : Nat) (bb : Nat) (older : List PanicEntry) (w : World) {x : Value} (hc : w.cell? ⟨E, 0, none⟩ = some x) (hz : w.frozen? ⟨E, 0, none⟩ = false) :
    CallsD Tryd.prog 29 #[.pointer (some ⟨E, 0, none⟩)] (.panicking ({ v := .iface 82 (.pointer (some ⟨bb, 0, none⟩)), recovered := false } :: older)) w fun e u' w' =>
      e = .returned (.tuple #[]) ∧ u' = .panicking ({ v := .iface 82 (.pointer (some ⟨bb, 0, none⟩)), recovered := true } :: older) ∧ w' = w.setCell ⟨E, 0, none⟩ (.iface 82 (.pointer (some ⟨bb, 0, none⟩))) := by
  refine callsD_of_wpS Tryd.func29 rfl fun c₀ cs hu => ?_
  apply wpS_seq
  apply wpS_region
  simp [wpOpsS, go_sem, recoverD, hu, Tryd.ntmps29, Exit.thenS]
  refine wpS_of_wp ?_
  rw [show (#[Value.pointer (some ⟨E, 0, none⟩)] ++ (Array.replicate 14 undef).setIfInBounds 4 (Value.iface 82 (.pointer (some ⟨bb, 0, none⟩)))) = #[Value.pointer (some ⟨E, 0, none⟩), undef, undef, undef, undef, .iface 82 (.pointer (some ⟨bb, 0, none⟩)), undef, undef, undef, undef, undef, undef, undef, undef, undef] from rfl]
  have ha : ∀ (W : World) (v : Value), (Instr.typeAssert (.iface 82 v) 20 82 true).run Tryd.prog W = .ok (.tuple #[v, .bool true]) W := fun W v => by kernel_rfl
  go_wp2
  cases c₀
  simp_all [bodyPostS, results, Tryd.results29]
end Go.Proofs.YtgfeainpeplphaaDoor
