import Derived.Test.YtpikjceodmepiaaGreatDoorYob
set_option linter.unusedVariables false
set_option linter.unusedSimpArgs false
namespace Go.Proofs.YtpikjceodmepiaaGreatDoor
open Go.RowKit Hb Hf
set_option linter.unusedVariables false
set_option linter.unusedSimpArgs false
attribute [local go_sem ↓] Go.wp_at_zero Go.wp_at_succ
/-! ### the functions that are handed in -/
theorem inter_ok : KeepOk 66 (fun x y => x && y) := by
  intro x y w
  cases x <;> cases y
  all_goals
    go_enter Tryz.func66, Tryz.ntmps66
    go_wp2
    go_ret
    exact ⟨rfl, rfl⟩
/-! ### give, of what is not too much -/
theorem longE_of {M : Nat} {L : List R} (h : Bnd M L) (hM : M ≤ 128) : longE L = false := by
  unfold longE
  rw [List.any_eq_false]
  intro r hr
  have := h r hr
  simp
  omega
theorem Bnd.ends {M : Nat} {L N : List R} (h : Bnd M L) (he : ∀ r ∈ N, (∃ s ∈ L, s.1 = r.1) ∧ ∃ s ∈ L, s.2 = r.2) : Bnd M N := fun r hr => by
  obtain ⟨⟨s, h1, h2⟩, t, h3, h4⟩ := he r hr
  exact ⟨by rw [← h2]; exact (h s h1).1, by rw [← h4]; exact (h t h3).2⟩
set_option maxRecDepth 100000 in
set_option maxHeartbeats 1000000 in
theorem give_ok {w : World} {P : Nat → Prop} {A : Option Addr} {n c M : Nat} {ps : List Rg} (h : SetP w P A n c ps) (hP : ∀ b, P b → b < w.heap.size) (hs : Szs ps) (hn : n ≤ 1000) (hb : Bnd M (ps.map edsR)) (hM : M ≤ 128) :
    Calls Tryz.prog 52 #[.slice A n c] w fun e w' => ∃ A' n' c' qs w1, e = .returned (.tuple #[.slice A' n' c', .int .i64 0]) ∧ NormRes w (ps.map edsR) n A' n' c' qs w1 ∧ Below w1.heap.size w1 w' := by
  have HN := Lib.hid (normal_any h hP hs (by omega))
  have HL := Lib.hid (longE_of hb hM)
  have HB := Lib.hid hb
  have hn9 := hn
  clear h hP hs hb
  generalize ps.map edsR = L at *
  go_enter Tryz.func52, Tryz.ntmps52
  go_wp2_with (go_at_call 73; (with_reducible refine HN.out.mono ?_); rintro e w1 ⟨A1, n1, c1, qs, rfl, hres⟩; have HR := Lib.hid hres; have hn1 : n1 ≤ 1000 := Nat.le_trans hres.2.2.2.2.2.1 hn9; clear hres)
  have HF := Lib.hid (fine_any (w := w1) false (HR.out.1.set (fun b h1 h2 => ⟨h1, h2⟩)) (fun b hb => hb.2) (fun q hq => ⟨fun _ => (HR.out.2.1 q hq).2.1, fun _ => (HR.out.2.1 q hq).2.2⟩) (by omega))
  have e : fineC (longP qs) false n1 = 0 := by rw [longP_E, longE_of (HB.out.ends HR.out.2.2.2.2.1) hM]; simp [fineC]; omega
  rw [e] at HF
  clear e
  go_wp2_with (go_at_call 72; (with_reducible refine HF.out.mono ?_); rintro e w2 ⟨rfl, hb2⟩)
  first
    | (go_ret; exact ⟨_, _, _, qs, w1, rfl, HR.out, hb2⟩)
    | exact bodyPost_ret (v := .tuple #[.slice A1 n1 c1, .int .i64 0]) (by simp [results, Tryz.results52, go_sem]) rfl ⟨_, _, _, qs, w1, rfl, HR.out, hb2⟩
end Go.Proofs.YtpikjceodmepiaaGreatDoor

