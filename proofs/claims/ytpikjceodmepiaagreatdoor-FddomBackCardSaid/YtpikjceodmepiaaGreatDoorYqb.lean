import Derived.Test.YtpikjceodmepiaaGreatDoorYpb
set_option linter.unusedVariables false
set_option linter.unusedSimpArgs false
namespace Go.Proofs.YtpikjceodmepiaaGreatDoor
open Go.RowKit Hb Hf
set_option linter.unusedVariables false
set_option linter.unusedSimpArgs false
attribute [local go_sem ↓] Go.wp_at_zero Go.wp_at_succ
/-! ### taking two sets -/
/-- a set that came in, of at most K ranges, whose ends take at most M limbs -/
structure SIn (w : World) (P : Nat → Prop) (A : Option Addr) (n c : Nat) (ps : List Rg) (K M : Nat) : Prop where
  set : SetP w P A n c ps
  szs : Szs ps
  len : n ≤ K
  bnd : Bnd M (ps.map edsR)
theorem SIn.keep {w w' : World} {P Q : Nat → Prop} {A : Option Addr} {n c K M : Nat} {ps : List Rg} (h : SIn w P A n c ps K M) (hb : ∀ b, P b → Q b ∧ w'.heap[b]? = w.heap[b]?) : SIn w' Q A n c ps K M := ⟨h.set.keep hb, h.szs, h.len, h.bnd⟩
/-- a set of the call's own that has been looked over -/
structure SOut (w : World) (B : Nat) (A : Option Addr) (n c : Nat) (qs : List Rg) (K M : Nat) : Prop where
  row : RRow w B (Fr B w) A n c qs
  gd : ∀ q ∈ qs, Gd q
  nf : NF (qs.map edsR)
  len : n ≤ K
  bnd : Bnd M (qs.map edsR)
theorem SOut.set {w : World} {B : Nat} {A : Option Addr} {n c K M : Nat} {qs : List Rg} (h : SOut w B A n c qs K M) : SetP w (Fr B w) A n c qs := h.row.set (fun b h1 h2 => ⟨h1, h2⟩)
theorem SOut.sin {w : World} {B : Nat} {A : Option Addr} {n c K M : Nat} {qs : List Rg} (h : SOut w B A n c qs K M) : SIn w (Fr B w) A n c qs K M := ⟨h.set, fun q hq => ⟨fun _ => (h.gd q hq).2.1, fun _ => (h.gd q hq).2.2⟩, h.len, h.bnd⟩
theorem SOut.below {w w' : World} {B : Nat} {A : Option Addr} {n c K M : Nat} {qs : List Rg} (h : SOut w B A n c qs K M) (hb : Below w.heap.size w w') : SOut w' B A n c qs K M := ⟨h.row.fr hb, h.gd, h.nf, h.len, h.bnd⟩
theorem SOut.lower {w : World} {B B' : Nat} {A : Option Addr} {n c K M : Nat} {qs : List Rg} (h : SOut w B A n c qs K M) (hB : B' ≤ B) : SOut w B' A n c qs K M := ⟨(h.row.wide (fun b hb => ⟨by omega, hb.2⟩)).lower hB, h.gd, h.nf, h.len, h.bnd⟩
theorem Done.out {B ad K M : Nat} {w : World} {s : SRec} (h : Done B w ad s) (hK : s.n ≤ K) (hM : Bnd M (s.ps.map edsR)) : ∃ A' n' c' qs, VBox w ad A' n' c' ∧ SOut w B A' n' c' qs K M ∧ (∀ z, Hf.mem z (qs.map edsR) ↔ Hf.mem z (s.ps.map edsR)) := by
  obtain ⟨A', n', c', qs, h1, h2, h3, h4, h5, h6, h7, h8⟩ := h
  exact ⟨A', n', c', qs, h1, ⟨h2, h3, h4, by omega, hM.ends h6⟩, h5⟩
theorem memB_congr {L M : List R} (h : ∀ z, Hf.mem z L ↔ Hf.mem z M) (z : Int) : memB z L = memB z M := Bool.eq_iff_iff.2 (by rw [memB_iff, memB_iff]; exact h z)
/-- the world in which two sets have been boxed, and their boxes' addresses laid in a slice -/
abbrev V2 (w : World) (A A' : Option Addr) (n c n' c' : Nat) : World :=
  ((w.alloc (.cells #[.slice A n c] 22)).alloc (.cells #[.slice A' n' c'] 22)).alloc (.cells #[.pointer (some ⟨w.heap.size, 0, none⟩), .pointer (some ⟨w.heap.size + 1, 0, none⟩)] 89)
theorem V2_take {w : World} {P : Nat → Prop} {A A' : Option Addr} {n c n' c' K M : Nat} {ps ps' : List Rg} (h : SIn w P A n c ps K M) (h' : SIn w P A' n' c' ps' K M) (hP : ∀ b, P b → b < w.heap.size) (hK : K ≤ 1000) (hM : M ≤ 128) :
    Calls Tryz.prog 35 #[.slice none 0 0, .slice (some ⟨w.heap.size + 1 + 1, 0, none⟩) 2 2] (V2 w A A' n c n' c') fun e w' => e = .returned (.int .i64 0) ∧ Below w.heap.size w w' ∧ w.heap.size + 3 ≤ w'.heap.size ∧
      (∃ A1 n1 c1 qs, VBox w' w.heap.size A1 n1 c1 ∧ SOut w' (w.heap.size + 3) A1 n1 c1 qs K M ∧ (∀ z, Hf.mem z (qs.map edsR) ↔ Hf.mem z (ps.map edsR))) ∧
      ∃ A1 n1 c1 qs, VBox w' (w.heap.size + 1) A1 n1 c1 ∧ SOut w' (w.heap.size + 3) A1 n1 c1 qs K M ∧ (∀ z, Hf.mem z (qs.map edsR) ↔ Hf.mem z (ps'.map edsR)) := by
  have hb : Below w.heap.size w (V2 w A A' n c n' c') := (((Below.refl _ _).alloc (Nat.le_refl _) _).alloc (by simp) _).alloc (by simp; omega) _
  have hz : (V2 w A A' n c n' c').heap.size = w.heap.size + 3 := by simp
  have v0 : VBox (V2 w A A' n c n' c') w.heap.size A n c := by
    have h0 : VBox (w.alloc (.cells #[.slice A n c] 22)) w.heap.size A n c := heap_alloc_new w _
    exact ((((Below.refl _ _).alloc (Nat.le_refl _) _).alloc (by simp) _).block w.heap.size (by simp)).trans h0
  have v1 : VBox (V2 w A A' n c n' c') (w.heap.size + 1) A' n' c' := by
    have h0 : VBox ((w.alloc (.cells #[.slice A n c] 22)).alloc (.cells #[.slice A' n' c'] 22)) (w.heap.size + 1) A' n' c' := by
      have := heap_alloc_new (w.alloc (.cells #[.slice A n c] 22)) (.cells #[.slice A' n' c'] 22)
      rwa [World.size_alloc] at this
    exact (((Below.refl _ _).alloc (Nat.le_refl _) _).block (w.heap.size + 1) (by simp)).trans h0
  have hp : (V2 w A A' n c n' c').heap[w.heap.size + 1 + 1]? = some (.cells #[.pointer (some ⟨w.heap.size, 0, none⟩), .pointer (some ⟨w.heap.size + 1, 0, none⟩)] 89 (0, 0)) := by
    have := heap_alloc_new ((w.alloc (.cells #[.slice A n c] 22)).alloc (.cells #[.slice A' n' c'] 22)) (.cells #[.pointer (some ⟨w.heap.size, 0, none⟩), .pointer (some ⟨w.heap.size + 1, 0, none⟩)] 89)
    simpa using this
  have k1 := h.keep (Q := P) (fun b hb2 => ⟨hb2, hb.block b (hP b hb2)⟩)
  have k2 := h'.keep (Q := P) (fun b hb2 => ⟨hb2, hb.block b (hP b hb2)⟩)
  generalize V2 w A A' n c n' c' = W at *
  have hT := take_any (w := W) (P := P) (ads := [w.heap.size, w.heap.size + 1]) (ss := [⟨A, n, c, ps⟩, ⟨A', n', c', ps'⟩]) (ns := []) (G := w.heap.size + 1 + 1) (q := 2) (r := 0) (c := 2) (ci := 0) (AI := none)
    ⟨rfl, fun j ad s h1 h2 => by
      match j with
      | 0 => cases h1; cases h2; exact v0
      | 1 => cases h1; cases h2; exact v1
      | j + 2 => simp at h1, fun s hs => by
      simp only [List.mem_cons, List.not_mem_nil, or_false] at hs
      rcases hs with rfl | rfl
      · exact ⟨k1.set, k1.szs, by have := k1.len; simp only; omega⟩
      · exact ⟨k2.set, k2.szs, by have := k2.len; simp only; omega⟩, fun b hb2 => ⟨by have := hP b hb2; omega, by simp; have := hP b hb2; omega⟩, by simp⟩
    ⟨fun j x h => by simp at h, fun x h => by simp at h⟩ (fun j ad h1 => by
      match j with
      | 0 => cases h1; rw [cell_of_row W _ 0 _ _ (0, 0) hp]; rfl
      | 1 => cases h1; rw [cell_of_row W _ 1 _ _ (0, 0) hp]; rfl
      | j + 2 => simp at h1) (by omega) (by simp; omega) rfl rfl (by omega) (by omega)
  have hnl : anyLong [⟨A, n, c, ps⟩, ⟨A', n', c', ps'⟩] [] = false := by
    simp [anyLong, longP_E, longE_of h.bnd hM, longE_of h'.bnd hM]
  refine hT.mono fun e w' ⟨hch, hcs⟩ => ?_
  rw [hnl] at hcs
  rcases hcs with ⟨_, h1⟩ | ⟨_, _, s, hs, M', h1, h2, h3, h4⟩ | ⟨he, _, hd⟩
  · cases h1
  · exfalso
    simp only [List.mem_cons, List.not_mem_nil, or_false] at hs
    rcases hs with rfl | rfl
    · have := h.len; simp only at h4; omega
    · have := h'.len; simp only at h4; omega
  · have hs3 := hch.size
    rw [hz] at hs3
    rw [hz] at hd
    refine ⟨he, hb.trans (hch.below (by omega) (fun ad had => by simp at had; omega)), hs3, ?_, ?_⟩
    · obtain ⟨A1, n1, c1, qs, d1, d2, d3⟩ := (hd 0 _ _ rfl rfl).out (K := K) (M := M) h.len h.bnd
      exact ⟨A1, n1, c1, qs, d1, d2, d3⟩
    · obtain ⟨A1, n1, c1, qs, d1, d2, d3⟩ := (hd 1 _ _ rfl rfl).out (K := K) (M := M) h'.len h'.bnd
      exact ⟨A1, n1, c1, qs, d1, d2, d3⟩
def TwoPost (w : World) (wt : Bool → Bool → Bool) (La Lb : List R) (K M : Nat) (e : Ending) (w' : World) : Prop :=
  ∃ A m c qs, e = .returned (.tuple #[.slice A m c, .int .i64 0]) ∧ SOut w' w.heap.size A m c qs K M ∧ (∀ z, Hf.mem z (qs.map edsR) ↔ wt (memB z La) (memB z Lb) = true) ∧ Below w.heap.size w w'
set_option maxRecDepth 100000 in
set_option maxHeartbeats 2000000 in
theorem two_ok {w : World} {P : Nat → Prop} {A A' : Option Addr} {n c n' c' K M : Nat} {ps ps' : List Rg} {F : FuncId} {wt : Bool → Bool → Bool} (h : SIn w P A n c ps K M) (h' : SIn w P A' n' c' ps' K M) (hP : ∀ b, P b → b < w.heap.size)
    (hK : 4 * K + 1 ≤ 1000) (hM : M + 1 ≤ 128) (hF : KeepOk F wt) (hen0 : ∀ args w, (callFunc F args).run Tryz.prog w = .ok (.enter F args) w) :
    Calls Tryz.prog 65 #[.slice A n c, .slice A' n' c', .func (.func F) #[] #[]] w (TwoPost w wt (ps.map edsR) (ps'.map edsR) (4 * K + 1) (M + 1)) := by
  have HT := Lib.hid (V2_take h h' hP (by omega) (by omega))
  have HF := Lib.hid hF
  have HEn := Lib.hid hen0
  have HKM := Lib.hid (And.intro hK hM)
  clear h h' hP hF hen0 hK hM
  go_enter Tryz.func65, Tryz.ntmps65
  go_wp2_with (go_at_call 35; (with_reducible refine HT.out.mono ?_); rintro e w1 ⟨rfl, hb1, hz1, ⟨A1, n1, c1, q1, v1, o1, m1⟩, A2, n2, c2, q2, v2, o2, m2⟩; have HB1 := Lib.hid (And.intro hb1 hz1); have HO := Lib.hid (And.intro o1 o2); have HMm := Lib.hid (And.intro m1 m2); have x1 := v1.cell.1; have x2 := v2.cell.1; clear hb1 hz1 o1 o2 m1 m2)
  have HMe := Lib.hid (merge_any (w := w1) HO.out.1.set HO.out.2.set HO.out.1.gd HO.out.2.gd (fun b hb => hb.2) (by have := HO.out.1.len; have := HKM.out; omega) (by have := HO.out.2.len; have := HKM.out; omega) HO.out.1.nf HO.out.2.nf HO.out.1.bnd HO.out.2.bnd (by have := HKM.out; omega) HF.out HEn.out)
  go_wp2_with (go_at_call 91; (with_reducible refine HMe.out.mono ?_); rintro e w2 ⟨A3, n3, c3, q3, rfl, hset, hgd, hme, hb2⟩; have HS3 := Lib.hid hset; have HG3 := Lib.hid hgd; have HM3 := Lib.hid hme; have HB2 := Lib.hid hb2; clear hset hgd hme hb2)
  have HL3 := Lib.hid (show n3 ≤ 4 * K + 1 by
    have h1 := HM3.out.len
    rw [List.length_map, List.length_map, List.length_map, HS3.out.row.len, HO.out.1.row.len, HO.out.2.row.len] at h1
    have := HO.out.1.len
    have := HO.out.2.len
    omega)
  have HGi := Lib.hid (give_ok (w := w2) HS3.out (fun b hb => hb.elim (fun k => Nat.lt_of_lt_of_le k.2 HB2.out.size) (·.2)) (fun q hq => ⟨fun _ => (HG3.out q hq).2.1, fun _ => (HG3.out q hq).2.2⟩) (by have := HL3.out; have := HKM.out; omega) HM3.out.bnd HKM.out.2)
  go_wp2_with (go_at_call 52; (with_reducible refine HGi.out.mono ?_); rintro e w3 ⟨A4, n4, c4, q4, w4, rfl, hres, hb3⟩; have HR := Lib.hid hres; have HB3 := Lib.hid hb3; clear hres hb3)
  obtain ⟨r1, r2, r3, r4, r5, r6, r7⟩ := HR.out
  have key : TwoPost w wt (ps.map edsR) (ps'.map edsR) (4 * K + 1) (M + 1) (.returned (.tuple #[.slice A4 n4 c4, .int .i64 0])) w3 := by
    have s1 := HB1.out.1.size
    have s2 := HB2.out.size
    have s3 := r7.size
    refine ⟨A4, n4, c4, q4, rfl, ((⟨r1, r2, r3, by have := HL3.out; omega, Bnd.ends HM3.out.bnd r5⟩ : SOut w4 w2.heap.size A4 n4 c4 q4 (4 * K + 1) (M + 1)).below HB3.out).lower (by omega), fun z => ?_, (HB1.out.1.trans (HB2.out.mono (by omega))).trans ((r7.trans (HB3.out.mono s3)).mono (by omega))⟩
    rw [r4 z, HM3.out.mi.mem, memB_congr HMm.out.1, memB_congr HMm.out.2]
    exact ⟨And.right, fun k => ⟨trivial, k⟩⟩
  first
    | (go_ret; exact key)
    | exact bodyPost_ret (v := .tuple #[.slice A4 n4 c4, .int .i64 0]) (by simp [results, Tryz.results65, go_sem]) rfl key
end Go.Proofs.YtpikjceodmepiaaGreatDoor

