import Derived.Test.YtpikjceodmepiaaGreatDoorYqb
set_option linter.unusedVariables false
set_option linter.unusedSimpArgs false
namespace Go.Proofs.YtpikjceodmepiaaGreatDoor
open Go.RowKit Hb Hf
set_option linter.unusedVariables false
set_option linter.unusedSimpArgs false
attribute [local go_sem ↓] Go.wp_at_zero Go.wp_at_succ
/-! ### Inter, Union, Minus -/
set_option maxHeartbeats 1000000 in
theorem Inter_ok {w : World} {P : Nat → Prop} {A A' : Option Addr} {n c n' c' K M : Nat} {ps ps' : List Rg} (h : SIn w P A n c ps K M) (h' : SIn w P A' n' c' ps' K M) (hP : ∀ b, P b → b < w.heap.size) (hK : 4 * K + 1 ≤ 1000) (hM : M + 1 ≤ 128) :
    Calls Tryz.prog 26 #[.slice A n c, .slice A' n' c'] w (TwoPost w (fun x y => x && y) (ps.map edsR) (ps'.map edsR) (4 * K + 1) (M + 1)) := by
  have HT := Lib.hid (two_ok h h' hP hK hM inter_ok (enters_of Tryz.func66 (by kernel_rfl) rfl))
  clear h h' hP hK hM
  go_enter Tryz.func26, Tryz.ntmps26
  go_wp2_with (go_at_call 65; (with_reducible refine HT.out.mono ?_); rintro e w1 ⟨A3, m, c3, qs, rfl, hr⟩; have HR := Lib.hid hr; clear hr)
  exact bodyPost_ret (v := .tuple #[.slice A3 m c3, .int .i64 0]) (by simp [results, Tryz.results26, go_sem]) rfl ⟨_, _, _, qs, rfl, HR.out⟩
/-! ### one set, and integers -/
theorem take1 {W : World} {P : Nat → Prop} {A AI : Option Addr} {n c K M ad G r ci : Nat} {ps : List Rg} {ns : List IRec} (h : SIn W P A n c ps K M) (hP : ∀ b, P b → b < W.heap.size ∧ b ≠ ad) (hv : VBox W ad A n c) (hG : W.cell? ⟨G, 0, none⟩ = some (.pointer (some ⟨ad, 0, none⟩)))
    (hGl : G < W.heap.size) (hGn : G ≠ ad) (hin : InIn W AI ns) (hl : ∀ x ∈ ns, lng x.l = false) (hr : ns.length = r) (hr9 : r ≤ 1000000) (hK : K ≤ 1000) (hM : M ≤ 128) :
    Calls Tryz.prog 35 #[.slice AI r ci, .slice (some ⟨G, 0, none⟩) 1 1] W fun e w' => e = .returned (.int .i64 0) ∧ Chg W w' [ad] ∧ ∃ A1 n1 c1 qs, VBox w' ad A1 n1 c1 ∧ SOut w' W.heap.size A1 n1 c1 qs K M ∧ (∀ z, Hf.mem z (qs.map edsR) ↔ Hf.mem z (ps.map edsR)) := by
  have hT := take_any (w := W) (P := P) (ads := [ad]) (ss := [⟨A, n, c, ps⟩]) (ns := ns) (G := G) (q := 1) (r := r) (c := 1) (ci := ci) (AI := AI)
    ⟨rfl, fun j ad s h1 h2 => by
      match j with
      | 0 => cases h1; cases h2; exact hv
      | j + 1 => simp at h1, fun s hs => by
      rw [List.mem_singleton.1 hs]
      exact ⟨h.set, h.szs, by have := h.len; simp only; omega⟩, fun b hb2 => ⟨(hP b hb2).1, by simpa using (hP b hb2).2⟩, by simp⟩
    hin (fun j ad h1 => by
      match j with
      | 0 => cases h1; exact hG
      | j + 1 => simp at h1) hGl (by simpa using hGn) rfl hr (by omega) hr9
  have hnl : anyLong [⟨A, n, c, ps⟩] ns = false := by
    unfold anyLong
    rw [Bool.or_eq_false_iff]
    refine ⟨by simp [longP_E, longE_of h.bnd hM], List.any_eq_false.2 fun x hx => by rw [hl x hx]; simp⟩
  refine hT.mono fun e w' ⟨hch, hcs⟩ => ?_
  rw [hnl] at hcs
  rcases hcs with ⟨_, h1⟩ | ⟨_, _, s, hs, M', h1, h2, h3, h4⟩ | ⟨he, _, hd⟩
  · cases h1
  · exfalso
    rw [List.mem_singleton.1 hs] at h4
    have := h.len; simp only at h4; omega
  · exact ⟨he, hch, (hd 0 _ _ rfl rfl).out (K := K) (M := M) h.len h.bnd⟩
def OnePost (w : World) (L : List R) (K M : Nat) (e : Ending) (w' : World) : Prop :=
  ∃ A m c qs, e = .returned (.tuple #[.slice A m c, .int .i64 0]) ∧ SOut w' w.heap.size A m c qs K M ∧ (∀ z, Hf.mem z (qs.map edsR) ↔ Hf.mem z L) ∧ Below w.heap.size w w'
/-- a slice in a box, the box's address in a slice -/
abbrev V1 (w : World) (A : Option Addr) (n c : Nat) : World := (w.alloc (.cells #[.slice A n c] 22)).alloc (.cells #[.pointer (some ⟨w.heap.size, 0, none⟩)] 89)
theorem V1_facts (w : World) (A : Option Addr) (n c : Nat) : Below w.heap.size w (V1 w A n c) ∧ (V1 w A n c).heap.size = w.heap.size + 2 ∧ VBox (V1 w A n c) w.heap.size A n c ∧ (V1 w A n c).cell? ⟨w.heap.size + 1, 0, none⟩ = some (.pointer (some ⟨w.heap.size, 0, none⟩)) := by
  refine ⟨((Below.refl _ _).alloc (Nat.le_refl _) _).alloc (by simp) _, by simp, ?_, ?_⟩
  · have h0 : VBox (w.alloc (.cells #[.slice A n c] 22)) w.heap.size A n c := heap_alloc_new w _
    exact (((Below.refl _ _).alloc (Nat.le_refl _) _).block w.heap.size (by simp)).trans h0
  · have := heap_alloc_new (w.alloc (.cells #[.slice A n c] 22)) (.cells #[.pointer (some ⟨w.heap.size, 0, none⟩)] 89)
    rw [World.size_alloc] at this
    rw [cell_of_row _ _ 0 _ _ (0, 0) this]
    rfl
theorem InIn.nil (W : World) : InIn W none [] := ⟨fun j x h => by simp at h, fun x h => by simp at h⟩
theorem V1_take {w : World} {P : Nat → Prop} {A : Option Addr} {n c K M : Nat} {ps : List Rg} (h : SIn w P A n c ps K M) (hP : ∀ b, P b → b < w.heap.size) (hK : K ≤ 1000) (hM : M ≤ 128) :
    Calls Tryz.prog 35 #[.slice none 0 0, .slice (some ⟨w.heap.size + 1, 0, none⟩) 1 1] (V1 w A n c) fun e w' => e = .returned (.int .i64 0) ∧ Below w.heap.size w w' ∧ w.heap.size + 2 ≤ w'.heap.size ∧
      ∃ A1 n1 c1 qs, VBox w' w.heap.size A1 n1 c1 ∧ SOut w' (w.heap.size + 2) A1 n1 c1 qs K M ∧ (∀ z, Hf.mem z (qs.map edsR) ↔ Hf.mem z (ps.map edsR)) := by
  obtain ⟨hb, hz, hv, hc⟩ := V1_facts w A n c
  have hk := h.keep (Q := P) (fun b hb2 => ⟨hb2, hb.block b (hP b hb2)⟩)
  generalize V1 w A n c = W at *
  refine (take1 (r := 0) (ci := 0) hk (fun b hb2 => ⟨by have := hP b hb2; omega, by have := hP b hb2; omega⟩) hv hc (by omega) (by omega) (InIn.nil W) (fun x hx => by cases hx) rfl (by omega) hK hM).mono fun e w' ⟨he, hch, hd⟩ => ?_
  have hs3 := hch.size
  rw [hz] at hs3 hd
  exact ⟨he, hb.trans (hch.below (by omega) (fun ad had => by simp at had; omega)), hs3, hd⟩
set_option maxHeartbeats 1000000 in
theorem Norm_ok {w : World} {P : Nat → Prop} {A : Option Addr} {n c K M : Nat} {ps : List Rg} (h : SIn w P A n c ps K M) (hP : ∀ b, P b → b < w.heap.size) (hK : K ≤ 1000) (hM : M ≤ 128) :
    Calls Tryz.prog 24 #[.slice A n c] w (OnePost w (ps.map edsR) K M) := by
  have HT := Lib.hid (V1_take h hP hK hM)
  clear h hP hK hM
  go_enter Tryz.func24, Tryz.ntmps24
  go_wp2_with (go_at_call 35; (with_reducible refine HT.out.mono ?_); rintro e w1 ⟨rfl, hb1, hz1, A1, n1, c1, q1, v1, o1, m1⟩; have HB1 := Lib.hid (And.intro hb1 hz1); have HO := Lib.hid (And.intro o1 m1); have x1 := v1.cell.1; clear hb1 hz1 o1 m1 v1)
  exact bodyPost_ret (v := .tuple #[.slice A1 n1 c1, .int .i64 0]) (by simp [results, Tryz.results24, go_sem]) rfl ⟨_, _, _, q1, rfl, HO.out.1.lower (by omega), HO.out.2, HB1.out.1⟩
end Go.Proofs.YtpikjceodmepiaaGreatDoor

