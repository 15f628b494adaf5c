import Derived.Test.YtpikjceodmepiaaZbm
set_option linter.unusedVariables false
set_option linter.unusedSimpArgs false
namespace Go.Proofs.Ytpikjceodmepiaa
open Go.RowKit Hb Hf
set_option linter.unusedVariables false
set_option linter.unusedSimpArgs false
attribute [local go_sem ↓] Go.wp_at_zero Go.wp_at_succ
/-! ### sets are what sets are -/
theorem mem_true {L : List R} {z : Int} : memB z L = true ↔ Hf.mem z L := memB_iff
theorem SIn.fr {w : World} {B B' : Nat} {A : Option Addr} {n c K M : Nat} {ps : List Rg} (h : SIn w (Fr B w) A n c ps K M) (hB : B' ≤ B) : SIn w (Fr B' w) A n c ps K M := h.keep fun b hb => ⟨⟨Nat.le_trans hB hb.1, hb.2⟩, rfl⟩
theorem NF.none_mem {N : List R} (h : NF N) (hm : ∀ z, ¬ Hf.mem z N) : N = [] := NF.uniq (m := []) h trivial fun z => ⟨fun k => absurd k (hm z), fun k => by obtain ⟨r, hr, _⟩ := k; cases hr⟩
theorem memB_of {Q : List R} {f : Int → Bool} (h : ∀ z, Hf.mem z Q ↔ f z = true) (t : Int) : memB t Q = f t := Bool.eq_iff_iff.2 (by rw [memB_iff]; exact h t)
set_option maxRecDepth 100000 in
set_option maxHeartbeats 8000000 in
theorem sets_walk {w : World} {A1 A2 A3 : Option Addr} {n1 n2 n3 c1 c2 c3 : Nat} {p1 p2 p3 : List Rg} (h1 : SetP w (fun b => b < w.heap.size) A1 n1 c1 p1) (h2 : SetP w (fun b => b < w.heap.size) A2 n2 c2 p2) (h3 : SetP w (fun b => b < w.heap.size) A3 n3 c3 p3) (z1 : ZnR p1) (z2 : ZnR p2) (z3 : ZnR p3) :
    Calls Try.prog 4 #[.slice A1 n1 c1, .slice A2 n2 c2, .slice A3 n3 c3] w fun e w' => e = .returned (.bool true) ∧ Below w.heap.size w w' := by
  obtain ⟨B, hB⟩ : ∃ B, w.heap.size = B := ⟨_, rfl⟩
  have HB0 := Lib.hid (show Below B w w from hB ▸ Below.refl _ _)
  have hS0 : B ≤ w.heap.size := by omega
  have G1 := Lib.hid (fun u (hb : Below B w u) => (few_any (w := u) (h1.keep (Q := fun b => b < B) (fun b hk => ⟨by omega, hb.block b (by omega)⟩)) (fun b hk => by have := hb.size; omega) z1))
  have G2 := Lib.hid (fun u (hb : Below B w u) => (few_any (w := u) (h2.keep (Q := fun b => b < B) (fun b hk => ⟨by omega, hb.block b (by omega)⟩)) (fun b hk => by have := hb.size; omega) z2))
  have G3 := Lib.hid (fun u (hb : Below B w u) => (few_any (w := u) (h3.keep (Q := fun b => b < B) (fun b hk => ⟨by omega, hb.block b (by omega)⟩)) (fun b hk => by have := hb.size; omega) z3))
  rw [hB]
  clear h1 h2 h3 z1 z2 z3 hB
  go_enter Try.func4, Try.ntmps4
  go_wp2_with fail
  (with_reducible refine (awake_ok).mono ?_)
  rintro e u1 ⟨he, hb⟩
  subst he
  have HB1 := Lib.hid (HB0.out.trans (hb.mono hS0))
  have hS1 : B ≤ u1.heap.size := Nat.le_trans hS0 hb.size
  clear hb
  go_wp2_with fail
  (with_reducible refine (G1.out _ HB1.out).mono ?_)
  rintro e u2 ⟨Ax, nx, cx, qx, he, hs, hb⟩
  subst he
  have x := Lib.hid (hs.fr hS1)
  clear hs G1
  have HB2 := Lib.hid (HB1.out.trans (hb.mono hS1))
  have hS2 : B ≤ u2.heap.size := Nat.le_trans hS1 hb.size
  clear HB1 hS1
  clear hb
  go_wp2_with fail
  (with_reducible refine (G2.out _ HB2.out).mono ?_)
  rintro e u3 ⟨Ay, ny, cy, qy, he, hs, hb⟩
  subst he
  have y := Lib.hid (hs.fr hS2)
  clear hs G2
  have HB3 := Lib.hid (HB2.out.trans (hb.mono hS2))
  have hS3 : B ≤ u3.heap.size := Nat.le_trans hS2 hb.size
  have x' := Lib.hid (x.out.lift hb)
  clear x
  have x := x'
  clear x'
  clear HB2 hS2
  clear hb
  go_wp2_with fail
  (with_reducible refine (G3.out _ HB3.out).mono ?_)
  rintro e u4 ⟨Az, nz, cz, qz, he, hs, hb⟩
  subst he
  have z := Lib.hid (hs.fr hS3)
  clear hs G3
  have HB4 := Lib.hid (HB3.out.trans (hb.mono hS3))
  have hS4 : B ≤ u4.heap.size := Nat.le_trans hS3 hb.size
  have x' := Lib.hid (x.out.lift hb)
  clear x
  have x := x'
  clear x'
  have y' := Lib.hid (y.out.lift hb)
  clear y
  have y := y'
  clear y'
  clear HB3 hS3
  clear hb
  go_wp2_with fail
  (with_reducible refine (Inter_ok (x.out.more (K' := 40) (M' := 60) (by omega) (by omega)) (y.out.more (K' := 40) (M' := 60) (by omega) (by omega)) (fun b hb => hb.2) (by omega) (by omega)).mono ?_)
  rintro e u5 ⟨Ab, nb, cb, qb, he, hs, hm, hb⟩
  subst he
  have b := Lib.hid ((hs.lower hS4))
  have Xb := Lib.hid (And.intro hs.nf hm)
  clear hs hm
  have HB5 := Lib.hid (HB4.out.trans (hb.mono hS4))
  have hS5 : B ≤ u5.heap.size := Nat.le_trans hS4 hb.size
  have x' := Lib.hid (x.out.lift hb)
  clear x
  have x := x'
  clear x'
  have y' := Lib.hid (y.out.lift hb)
  clear y
  have y := y'
  clear y'
  have z' := Lib.hid (z.out.lift hb)
  clear z
  have z := z'
  clear z'
  clear HB4 hS4
  clear hb
  go_wp2_with fail
  (with_reducible refine (Inter_ok (y.out.more (K' := 40) (M' := 60) (by omega) (by omega)) (x.out.more (K' := 40) (M' := 60) (by omega) (by omega)) (fun b hb => hb.2) (by omega) (by omega)).mono ?_)
  rintro e u6 ⟨Ad, nd, cd, qd, he, hs, hm, hb⟩
  subst he
  have d := Lib.hid ((hs.lower hS5))
  have Xd := Lib.hid (And.intro hs.nf hm)
  clear hs hm
  have HB6 := Lib.hid (HB5.out.trans (hb.mono hS5))
  have hS6 : B ≤ u6.heap.size := Nat.le_trans hS5 hb.size
  have x' := Lib.hid (x.out.lift hb)
  clear x
  have x := x'
  clear x'
  have y' := Lib.hid (y.out.lift hb)
  clear y
  have y := y'
  clear y'
  have z' := Lib.hid (z.out.lift hb)
  clear z
  have z := z'
  clear z'
  have b' := Lib.hid (b.out.lift hb)
  clear b
  have b := b'
  clear b'
  clear HB5 hS5
  clear hb
  have heq : qb.map edsR = qd.map edsR := NF.uniq Xb.out.1 Xd.out.1 (fun t => by
    rw [Xb.out.2 t, Xd.out.2 t]
    cases memB t (qx.map edsR) <;> cases memB t (qy.map edsR) <;> simp)
  have hg1 : ∀ q ∈ qb, q.1.Nrm ∧ q.2.Nrm := fun q hq => (b.out.gd q hq).1
  have hg2 : ∀ q ∈ qd, q.1.Nrm ∧ q.2.Nrm := fun q hq => (d.out.gd q hq).1
  go_wp2_with fail
  (with_reducible refine (sameRanges_true b.out.set d.out.set (fun b hb => hb.2) hg1 hg2 heq).mono ?_)
  rintro e u7 ⟨he, hb⟩
  subst he
  clear hg1 hg2 heq
  have HB7 := Lib.hid (HB6.out.trans (hb.mono hS6))
  have hS7 : B ≤ u7.heap.size := Nat.le_trans hS6 hb.size
  have x' := Lib.hid (x.out.lift hb)
  clear x
  have x := x'
  clear x'
  have y' := Lib.hid (y.out.lift hb)
  clear y
  have y := y'
  clear y'
  have z' := Lib.hid (z.out.lift hb)
  clear z
  have z := z'
  clear z'
  have b' := Lib.hid (b.out.lift hb)
  clear b
  have b := b'
  clear b'
  have d' := Lib.hid (d.out.lift hb)
  clear d
  have d := d'
  clear d'
  clear HB6 hS6
  clear hb
  go_wp2_with fail
  (with_reducible refine (Union_ok (y.out.more (K' := 40) (M' := 60) (by omega) (by omega)) (z.out.more (K' := 40) (M' := 60) (by omega) (by omega)) (fun b hb => hb.2) (by omega) (by omega)).mono ?_)
  rintro e u8 ⟨Af, nf, cf, qf, he, hs, hm, hb⟩
  subst he
  have f := Lib.hid ((hs.lower hS7))
  have Xf := Lib.hid (And.intro hs.nf hm)
  clear hs hm
  have HB8 := Lib.hid (HB7.out.trans (hb.mono hS7))
  have hS8 : B ≤ u8.heap.size := Nat.le_trans hS7 hb.size
  have x' := Lib.hid (x.out.lift hb)
  clear x
  have x := x'
  clear x'
  have y' := Lib.hid (y.out.lift hb)
  clear y
  have y := y'
  clear y'
  have z' := Lib.hid (z.out.lift hb)
  clear z
  have z := z'
  clear z'
  have b' := Lib.hid (b.out.lift hb)
  clear b
  have b := b'
  clear b'
  have d' := Lib.hid (d.out.lift hb)
  clear d
  have d := d'
  clear d'
  clear HB7 hS7
  clear hb
  go_wp2_with fail
  (with_reducible refine (Inter_ok (x.out.more (K' := 161) (M' := 61) (by omega) (by omega)) (f.out.sin.more (K' := 161) (M' := 61) (by omega) (by omega)) (fun b hb => hb.2) (by omega) (by omega)).mono ?_)
  rintro e u9 ⟨Ag, ng, cg, qg, he, hs, hm, hb⟩
  subst he
  have g := Lib.hid ((hs.lower hS8))
  have Xg := Lib.hid (And.intro hs.nf hm)
  clear hs hm
  have HB9 := Lib.hid (HB8.out.trans (hb.mono hS8))
  have hS9 : B ≤ u9.heap.size := Nat.le_trans hS8 hb.size
  have x' := Lib.hid (x.out.lift hb)
  clear x
  have x := x'
  clear x'
  have y' := Lib.hid (y.out.lift hb)
  clear y
  have y := y'
  clear y'
  have z' := Lib.hid (z.out.lift hb)
  clear z
  have z := z'
  clear z'
  have b' := Lib.hid (b.out.lift hb)
  clear b
  have b := b'
  clear b'
  have d' := Lib.hid (d.out.lift hb)
  clear d
  have d := d'
  clear d'
  have f' := Lib.hid (f.out.lift hb)
  clear f
  have f := f'
  clear f'
  clear HB8 hS8
  clear hb
  go_wp2_with fail
  (with_reducible refine (Inter_ok (x.out.more (K' := 40) (M' := 60) (by omega) (by omega)) (z.out.more (K' := 40) (M' := 60) (by omega) (by omega)) (fun b hb => hb.2) (by omega) (by omega)).mono ?_)
  rintro e u10 ⟨Ah, nh, ch, qh, he, hs, hm, hb⟩
  subst he
  have h := Lib.hid ((hs.lower hS9))
  have Xh := Lib.hid (And.intro hs.nf hm)
  clear hs hm
  have HB10 := Lib.hid (HB9.out.trans (hb.mono hS9))
  have hS10 : B ≤ u10.heap.size := Nat.le_trans hS9 hb.size
  have x' := Lib.hid (x.out.lift hb)
  clear x
  have x := x'
  clear x'
  have y' := Lib.hid (y.out.lift hb)
  clear y
  have y := y'
  clear y'
  have z' := Lib.hid (z.out.lift hb)
  clear z
  have z := z'
  clear z'
  have b' := Lib.hid (b.out.lift hb)
  clear b
  have b := b'
  clear b'
  have d' := Lib.hid (d.out.lift hb)
  clear d
  have d := d'
  clear d'
  have f' := Lib.hid (f.out.lift hb)
  clear f
  have f := f'
  clear f'
  have g' := Lib.hid (g.out.lift hb)
  clear g
  have g := g'
  clear g'
  clear HB9 hS9
  clear hb
  go_wp2_with fail
  (with_reducible refine (Union_ok (b.out.sin.more (K' := 161) (M' := 61) (by omega) (by omega)) (h.out.sin.more (K' := 161) (M' := 61) (by omega) (by omega)) (fun b hb => hb.2) (by omega) (by omega)).mono ?_)
  rintro e u11 ⟨Ai, ni, ci, qi, he, hs, hm, hb⟩
  subst he
  have i := Lib.hid ((hs.lower hS10))
  have Xi := Lib.hid (And.intro hs.nf hm)
  clear hs hm
  have HB11 := Lib.hid (HB10.out.trans (hb.mono hS10))
  have hS11 : B ≤ u11.heap.size := Nat.le_trans hS10 hb.size
  have x' := Lib.hid (x.out.lift hb)
  clear x
  have x := x'
  clear x'
  have y' := Lib.hid (y.out.lift hb)
  clear y
  have y := y'
  clear y'
  have z' := Lib.hid (z.out.lift hb)
  clear z
  have z := z'
  clear z'
  have b' := Lib.hid (b.out.lift hb)
  clear b
  have b := b'
  clear b'
  have d' := Lib.hid (d.out.lift hb)
  clear d
  have d := d'
  clear d'
  have f' := Lib.hid (f.out.lift hb)
  clear f
  have f := f'
  clear f'
  have g' := Lib.hid (g.out.lift hb)
  clear g
  have g := g'
  clear g'
  have h' := Lib.hid (h.out.lift hb)
  clear h
  have h := h'
  clear h'
  clear HB10 hS10
  clear hb
  have heq : qg.map edsR = qi.map edsR := NF.uniq Xg.out.1 Xi.out.1 (fun t => by
    rw [Xg.out.2 t, Xi.out.2 t]
    simp only [memB_of Xf.out.2, memB_of Xb.out.2, memB_of Xh.out.2]
    cases memB t (qx.map edsR) <;> cases memB t (qy.map edsR) <;> cases memB t (qz.map edsR) <;> simp)
  have hg1 : ∀ q ∈ qg, q.1.Nrm ∧ q.2.Nrm := fun q hq => (g.out.gd q hq).1
  have hg2 : ∀ q ∈ qi, q.1.Nrm ∧ q.2.Nrm := fun q hq => (i.out.gd q hq).1
  go_wp2_with fail
  (with_reducible refine (sameRanges_true g.out.set i.out.set (fun b hb => hb.2) hg1 hg2 heq).mono ?_)
  rintro e u12 ⟨he, hb⟩
  subst he
  clear hg1 hg2 heq
  have HB12 := Lib.hid (HB11.out.trans (hb.mono hS11))
  have hS12 : B ≤ u12.heap.size := Nat.le_trans hS11 hb.size
  have x' := Lib.hid (x.out.lift hb)
  clear x
  have x := x'
  clear x'
  have y' := Lib.hid (y.out.lift hb)
  clear y
  have y := y'
  clear y'
  have z' := Lib.hid (z.out.lift hb)
  clear z
  have z := z'
  clear z'
  have b' := Lib.hid (b.out.lift hb)
  clear b
  have b := b'
  clear b'
  have d' := Lib.hid (d.out.lift hb)
  clear d
  have d := d'
  clear d'
  have f' := Lib.hid (f.out.lift hb)
  clear f
  have f := f'
  clear f'
  have g' := Lib.hid (g.out.lift hb)
  clear g
  have g := g'
  clear g'
  have h' := Lib.hid (h.out.lift hb)
  clear h
  have h := h'
  clear h'
  have i' := Lib.hid (i.out.lift hb)
  clear i
  have i := i'
  clear i'
  clear HB11 hS11
  clear hb
  go_wp2_with fail
  (with_reducible refine (Minus_ok (x.out.more (K' := 40) (M' := 60) (by omega) (by omega)) (y.out.more (K' := 40) (M' := 60) (by omega) (by omega)) (fun b hb => hb.2) (by omega) (by omega)).mono ?_)
  rintro e u13 ⟨Aj, nj, cj, qj, he, hs, hm, hb⟩
  subst he
  have j := Lib.hid ((hs.lower hS12))
  have Xj := Lib.hid (And.intro hs.nf hm)
  clear hs hm
  have HB13 := Lib.hid (HB12.out.trans (hb.mono hS12))
  have hS13 : B ≤ u13.heap.size := Nat.le_trans hS12 hb.size
  have x' := Lib.hid (x.out.lift hb)
  clear x
  have x := x'
  clear x'
  have y' := Lib.hid (y.out.lift hb)
  clear y
  have y := y'
  clear y'
  have z' := Lib.hid (z.out.lift hb)
  clear z
  have z := z'
  clear z'
  have b' := Lib.hid (b.out.lift hb)
  clear b
  have b := b'
  clear b'
  have d' := Lib.hid (d.out.lift hb)
  clear d
  have d := d'
  clear d'
  have f' := Lib.hid (f.out.lift hb)
  clear f
  have f := f'
  clear f'
  have g' := Lib.hid (g.out.lift hb)
  clear g
  have g := g'
  clear g'
  have h' := Lib.hid (h.out.lift hb)
  clear h
  have h := h'
  clear h'
  have i' := Lib.hid (i.out.lift hb)
  clear i
  have i := i'
  clear i'
  clear HB12 hS12
  clear hb
  go_wp2_with fail
  (with_reducible refine (Minus_ok (x.out.more (K' := 161) (M' := 61) (by omega) (by omega)) (j.out.sin.more (K' := 161) (M' := 61) (by omega) (by omega)) (fun b hb => hb.2) (by omega) (by omega)).mono ?_)
  rintro e u14 ⟨Ak, nk, ck, qk, he, hs, hm, hb⟩
  subst he
  have k := Lib.hid ((hs.lower hS13))
  have Xk := Lib.hid (And.intro hs.nf hm)
  clear hs hm
  have HB14 := Lib.hid (HB13.out.trans (hb.mono hS13))
  have hS14 : B ≤ u14.heap.size := Nat.le_trans hS13 hb.size
  have x' := Lib.hid (x.out.lift hb)
  clear x
  have x := x'
  clear x'
  have y' := Lib.hid (y.out.lift hb)
  clear y
  have y := y'
  clear y'
  have z' := Lib.hid (z.out.lift hb)
  clear z
  have z := z'
  clear z'
  have b' := Lib.hid (b.out.lift hb)
  clear b
  have b := b'
  clear b'
  have d' := Lib.hid (d.out.lift hb)
  clear d
  have d := d'
  clear d'
  have f' := Lib.hid (f.out.lift hb)
  clear f
  have f := f'
  clear f'
  have g' := Lib.hid (g.out.lift hb)
  clear g
  have g := g'
  clear g'
  have h' := Lib.hid (h.out.lift hb)
  clear h
  have h := h'
  clear h'
  have i' := Lib.hid (i.out.lift hb)
  clear i
  have i := i'
  clear i'
  have j' := Lib.hid (j.out.lift hb)
  clear j
  have j := j'
  clear j'
  clear HB13 hS13
  clear hb
  have heq : qk.map edsR = qb.map edsR := NF.uniq Xk.out.1 Xb.out.1 (fun t => by
    rw [Xk.out.2 t, Xb.out.2 t]
    simp only [memB_of Xj.out.2]
    cases memB t (qx.map edsR) <;> cases memB t (qy.map edsR) <;> simp)
  have hg1 : ∀ q ∈ qk, q.1.Nrm ∧ q.2.Nrm := fun q hq => (k.out.gd q hq).1
  have hg2 : ∀ q ∈ qb, q.1.Nrm ∧ q.2.Nrm := fun q hq => (b.out.gd q hq).1
  go_wp2_with fail
  (with_reducible refine (sameRanges_true k.out.set b.out.set (fun b hb => hb.2) hg1 hg2 heq).mono ?_)
  rintro e u15 ⟨he, hb⟩
  subst he
  clear hg1 hg2 heq
  have HB15 := Lib.hid (HB14.out.trans (hb.mono hS14))
  have hS15 : B ≤ u15.heap.size := Nat.le_trans hS14 hb.size
  have x' := Lib.hid (x.out.lift hb)
  clear x
  have x := x'
  clear x'
  have y' := Lib.hid (y.out.lift hb)
  clear y
  have y := y'
  clear y'
  have z' := Lib.hid (z.out.lift hb)
  clear z
  have z := z'
  clear z'
  have b' := Lib.hid (b.out.lift hb)
  clear b
  have b := b'
  clear b'
  have d' := Lib.hid (d.out.lift hb)
  clear d
  have d := d'
  clear d'
  have f' := Lib.hid (f.out.lift hb)
  clear f
  have f := f'
  clear f'
  have g' := Lib.hid (g.out.lift hb)
  clear g
  have g := g'
  clear g'
  have h' := Lib.hid (h.out.lift hb)
  clear h
  have h := h'
  clear h'
  have i' := Lib.hid (i.out.lift hb)
  clear i
  have i := i'
  clear i'
  have j' := Lib.hid (j.out.lift hb)
  clear j
  have j := j'
  clear j'
  have k' := Lib.hid (k.out.lift hb)
  clear k
  have k := k'
  clear k'
  clear HB14 hS14
  clear hb
  go_wp2_with fail
  (with_reducible refine (Union_ok (j.out.sin.more (K' := 161) (M' := 61) (by omega) (by omega)) (b.out.sin.more (K' := 161) (M' := 61) (by omega) (by omega)) (fun b hb => hb.2) (by omega) (by omega)).mono ?_)
  rintro e u16 ⟨Al, nl, cl, ql, he, hs, hm, hb⟩
  subst he
  have l := Lib.hid ((hs.lower hS15))
  have Xl := Lib.hid (And.intro hs.nf hm)
  clear hs hm
  have HB16 := Lib.hid (HB15.out.trans (hb.mono hS15))
  have hS16 : B ≤ u16.heap.size := Nat.le_trans hS15 hb.size
  have x' := Lib.hid (x.out.lift hb)
  clear x
  have x := x'
  clear x'
  have y' := Lib.hid (y.out.lift hb)
  clear y
  have y := y'
  clear y'
  have z' := Lib.hid (z.out.lift hb)
  clear z
  have z := z'
  clear z'
  have b' := Lib.hid (b.out.lift hb)
  clear b
  have b := b'
  clear b'
  have d' := Lib.hid (d.out.lift hb)
  clear d
  have d := d'
  clear d'
  have f' := Lib.hid (f.out.lift hb)
  clear f
  have f := f'
  clear f'
  have g' := Lib.hid (g.out.lift hb)
  clear g
  have g := g'
  clear g'
  have h' := Lib.hid (h.out.lift hb)
  clear h
  have h := h'
  clear h'
  have i' := Lib.hid (i.out.lift hb)
  clear i
  have i := i'
  clear i'
  have j' := Lib.hid (j.out.lift hb)
  clear j
  have j := j'
  clear j'
  have k' := Lib.hid (k.out.lift hb)
  clear k
  have k := k'
  clear k'
  clear HB15 hS15
  clear hb
  have heq : ∀ t, Hf.mem t (ql.map edsR) ↔ Hf.mem t (qx.map edsR) := fun t => by
    rw [Xl.out.2 t, ← memB_iff]
    simp only [memB_of Xj.out.2, memB_of Xb.out.2]
    cases memB t (qx.map edsR) <;> cases memB t (qy.map edsR) <;> simp
  go_wp2_with fail
  (with_reducible refine (Same_true (l.out.sin.more (K' := 645) (M' := 62) (by omega) (by omega)) (x.out.more (K' := 645) (M' := 62) (by omega) (by omega)) (fun b hb => hb.2) (by omega) (by omega) heq).mono ?_)
  rintro e u17 ⟨he, hb⟩
  subst he
  clear heq
  have HB17 := Lib.hid (HB16.out.trans (hb.mono hS16))
  have hS17 : B ≤ u17.heap.size := Nat.le_trans hS16 hb.size
  have x' := Lib.hid (x.out.lift hb)
  clear x
  have x := x'
  clear x'
  have y' := Lib.hid (y.out.lift hb)
  clear y
  have y := y'
  clear y'
  have z' := Lib.hid (z.out.lift hb)
  clear z
  have z := z'
  clear z'
  have b' := Lib.hid (b.out.lift hb)
  clear b
  have b := b'
  clear b'
  have d' := Lib.hid (d.out.lift hb)
  clear d
  have d := d'
  clear d'
  have f' := Lib.hid (f.out.lift hb)
  clear f
  have f := f'
  clear f'
  have g' := Lib.hid (g.out.lift hb)
  clear g
  have g := g'
  clear g'
  have h' := Lib.hid (h.out.lift hb)
  clear h
  have h := h'
  clear h'
  have i' := Lib.hid (i.out.lift hb)
  clear i
  have i := i'
  clear i'
  have j' := Lib.hid (j.out.lift hb)
  clear j
  have j := j'
  clear j'
  have k' := Lib.hid (k.out.lift hb)
  clear k
  have k := k'
  clear k'
  have l' := Lib.hid (l.out.lift hb)
  clear l
  have l := l'
  clear l'
  clear HB16 hS16
  clear hb
  go_wp2_with fail
  (with_reducible refine (Inter_ok (j.out.sin.more (K' := 161) (M' := 61) (by omega) (by omega)) (y.out.more (K' := 161) (M' := 61) (by omega) (by omega)) (fun b hb => hb.2) (by omega) (by omega)).mono ?_)
  rintro e u18 ⟨Am, nm, cm, qm, he, hs, hm, hb⟩
  subst he
  have m := Lib.hid ((hs.lower hS17))
  have Xm := Lib.hid (And.intro hs.nf hm)
  clear hs hm
  have HB18 := Lib.hid (HB17.out.trans (hb.mono hS17))
  have hS18 : B ≤ u18.heap.size := Nat.le_trans hS17 hb.size
  have x' := Lib.hid (x.out.lift hb)
  clear x
  have x := x'
  clear x'
  have y' := Lib.hid (y.out.lift hb)
  clear y
  have y := y'
  clear y'
  have z' := Lib.hid (z.out.lift hb)
  clear z
  have z := z'
  clear z'
  have b' := Lib.hid (b.out.lift hb)
  clear b
  have b := b'
  clear b'
  have d' := Lib.hid (d.out.lift hb)
  clear d
  have d := d'
  clear d'
  have f' := Lib.hid (f.out.lift hb)
  clear f
  have f := f'
  clear f'
  have g' := Lib.hid (g.out.lift hb)
  clear g
  have g := g'
  clear g'
  have h' := Lib.hid (h.out.lift hb)
  clear h
  have h := h'
  clear h'
  have i' := Lib.hid (i.out.lift hb)
  clear i
  have i := i'
  clear i'
  have j' := Lib.hid (j.out.lift hb)
  clear j
  have j := j'
  clear j'
  have k' := Lib.hid (k.out.lift hb)
  clear k
  have k := k'
  clear k'
  have l' := Lib.hid (l.out.lift hb)
  clear l
  have l := l'
  clear l'
  clear HB17 hS17
  clear hb
  have hn0 : qm.map edsR = [] := NF.none_mem Xm.out.1 (fun t => by
    rw [Xm.out.2 t]
    simp only [memB_of Xj.out.2]
    cases memB t (qx.map edsR) <;> cases memB t (qy.map edsR) <;> simp)
  have hn1 : nm = 0 := by
    have h1 := m.out.row.len
    rw [← h1, ← List.length_map (f := edsR), hn0]
    rfl
  subst hn1
  clear hn0
  have HBz := HB18.out
  go_wp2_with fail
  first
    | (go_ret; exact ⟨rfl, HBz⟩)
    | exact bodyPost_ret (v := .bool true) (by simp [results, Try.results4, go_sem]) rfl ⟨rfl, HBz⟩
end Go.Proofs.Ytpikjceodmepiaa

