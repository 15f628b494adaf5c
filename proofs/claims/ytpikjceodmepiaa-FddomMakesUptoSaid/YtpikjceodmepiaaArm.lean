import Derived.Test.YtpikjceodmepiaaAqm
import Derived.Test.YtpikjceodmepiaaZbm
set_option linter.unusedVariables false
set_option linter.unusedSimpArgs false
namespace Go.Proofs.Ytpikjceodmepiaa
open Go.RowKit Hb Hf
set_option linter.unusedVariables false
set_option linter.unusedSimpArgs false
attribute [local go_sem ↓] Go.wp_at_zero Go.wp_at_succ
/-! ### what is made is what the document makes -/
theorem SmB.ed {a b : Bd} (h : SmB a b) : a.ed = b.ed := by
  obtain ⟨h1, h2, h3⟩ := h
  unfold Bd.ed Bd.z
  rw [h1, h2, h3]
theorem sm_eds {w : World} {ps qs : List Rg} (hl : qs.length = ps.length) (h : ∀ (j : Nat) (p q : Rg), ps[j]? = some p → qs[j]? = some q → CpB w p.1 q.1 ∧ CpB w p.2 q.2) : qs.map edsR = ps.map edsR := by
  apply List.ext_getElem?
  intro j
  rw [List.getElem?_map, List.getElem?_map]
  cases hp : ps[j]? with
  | none =>
    rw [List.getElem?_eq_none_iff] at hp
    rw [List.getElem?_eq_none (by omega)]
  | some p =>
    have hj := (List.getElem?_eq_some_iff.1 hp).1
    obtain ⟨q, hq⟩ : ∃ q, qs[j]? = some q := ⟨qs[j]'(by omega), by simp⟩
    obtain ⟨⟨a, _⟩, ⟨b, _⟩⟩ := h j p q hp hq
    rw [hq]
    simp only [Option.map_some, edsR]
    rw [a.ed, b.ed]
/-- limbs of up to K: bits of up to 32 K -/
theorem bn2_of {w : World} {P : Nat → Prop} {K : Nat} {ps : List Rg} (hk : ∀ p ∈ ps, Rg.At w P p) (hs : ∀ p ∈ ps, p.1.n ≤ K ∧ p.2.n ≤ K) : Bn2 (32 * K) (ps.map edsR) := by
  have key : ∀ d : Bd, d.At w P → d.n ≤ K → sz2 d.ed ≤ 32 * K := fun d hd hn => by
    unfold Bd.ed
    split
    · exact Nat.zero_le _
    · split
      · exact Nat.zero_le _
      · exact Nat.le_trans (digs2_len (neg := d.g) hd.lim.dig hd.lim.len) (Nat.mul_le_mul_left _ hn)
  intro r hr
  obtain ⟨p, hp, rfl⟩ := List.mem_map.1 hr
  exact ⟨key _ (hk p hp).a (hs p hp).1, key _ (hk p hp).b (hs p hp).2⟩
theorem bn2_mono {M M' : Nat} {L : List R} (h : Bn2 M L) (hM : M ≤ M') : Bn2 M' L := fun r hr => ⟨Nat.le_trans (h r hr).1 hM, Nat.le_trans (h r hr).2 hM⟩
/-- what Norm answers, is(..) finds to be the document's answer -/
def IsPost (w : World) (B : Nat) (e : Ending) (w' : World) : Prop := e = .returned (.bool true) ∧ Below B w w'
theorem is_any {w u : World} {P : Nat → Prop} {B xn xc : Nat} {X : Option Addr} {xs ps : List Rg} {e : Ending} {k : Int} (hx : RefI u P X xn xc xs) (hP : ∀ b, P b → b < u.heap.size) (hL : xs.map edsS = ps.map edsR)
    (hN : NormTB B w ps e u) (hk1 : (ps.map edsR).any lngS = true → k = 10) (hk2 : ∀ N, NF N → (∀ z, Hf.mem z N ↔ Hf.mem z (ps.map edsR)) → k = tkC (ps.map edsR) N) (hB : B ≤ w.heap.size) :
    ∃ (A : Option Addr) (n c : Nat), e = .returned (.tuple #[.slice A n c, .int .i64 k]) ∧ ∀ u', Below u.heap.size u u' → Calls Try.prog 10 #[.slice A n c, .int .i64 k, .slice X xn xc, .int .i64 k] u' (IsPost u' B) := by
  obtain ⟨hb, hc⟩ := hN
  have hlg : longP ps = (ps.map edsR).any lngS := by rw [longP_E, longE_lng]
  have hBu : B ≤ u.heap.size := Nat.le_trans hB hb.size
  rcases hc with ⟨he, h1⟩ | ⟨he, h0, M, h1, h2, h3⟩ | ⟨A, n, c, qs, he, h0, hrow, hgd, hnf, hm, hn⟩
  · rw [hlg] at h1
    rw [hk1 h1]
    exact ⟨none, 0, 0, he, fun u' hu => (is_bad 10 (by omega) (by omega) (by omega) X xn xc).mono fun e w' ⟨h4, h5⟩ => ⟨h4, h5.mono (Nat.le_trans hBu hu.size)⟩⟩
  · rw [hlg] at h0
    have hk : k = 90 := by
      rw [hk2 M h1 h2]
      unfold tkC
      rw [if_neg (by rw [h0]; exact Bool.false_ne_true), if_pos h3]
    rw [hk]
    exact ⟨none, 0, 0, he, fun u' hu => (is_bad 90 (by omega) (by omega) (by omega) X xn xc).mono fun e w' ⟨h4, h5⟩ => ⟨h4, h5.mono (Nat.le_trans hBu hu.size)⟩⟩
  · rw [hlg] at h0
    have hk : k = 0 := by
      rw [hk2 _ hnf hm]
      unfold tkC
      rw [if_neg (by rw [h0]; exact Bool.false_ne_true), if_neg (by rw [List.length_map, hrow.len]; omega)]
    rw [hk]
    refine ⟨A, n, c, he, fun u' hu => ?_⟩
    exact is_ok (hrow.ft hu) (Nat.le_trans hBu hu.size) hgd hnf (hx.keep (Q := fun b => b < u'.heap.size) (fun b hb2 => ⟨Nat.lt_of_lt_of_le (hP b hb2) hu.size, hu.block b (hP b hb2)⟩)) (fun b h => h) (fun z => by rw [hL]; exact hm z) (by rw [hL]; exact h0) hn
theorem norm_form {w u : World} {B : Nat} {ps : List Rg} {e : Ending} (h : NormTB B w ps e u) : ∃ (A : Option Addr) (n c : Nat) (k : Int), e = .returned (.tuple #[.slice A n c, .int .i64 k]) := by
  rcases h.2 with ⟨he, _⟩ | ⟨he, _⟩ | ⟨A, n, c, _, he, _⟩
  · exact ⟨_, _, _, _, he⟩
  · exact ⟨_, _, _, _, he⟩
  · exact ⟨_, _, _, _, he⟩
theorem tup_inj {A A' : Option Addr} {n n' c c' : Nat} {k k' : Int} (h : Ending.returned (.tuple #[.slice A n c, .int .i64 k]) = .returned (.tuple #[.slice A' n' c', .int .i64 k'])) : A = A' ∧ n = n' ∧ c = c' ∧ k = k' := by
  injection h with h
  injection h with h
  simp at h
  exact ⟨h.1.1, h.1.2.1, h.1.2.2, h.2⟩
theorem refI_of {u : World} {B n c : Nat} {A : Option Addr} {xs ps : List Rg} (h : SRow u B (Fr B u) A n c xs) (hx : xs.map edsS = ps.map edsR) (hb : Bn2 33554432 (ps.map edsR)) (hn : n ≤ 1048576) : RefI u (fun b => b < u.heap.size) A n c xs :=
  ⟨(h.wide (Q := fun b => b < u.heap.size) (fun b hb => hb.2)).set (fun b _ h => h), by rw [hx]; exact bn2_mono hb (by omega), by omega⟩
theorem RefI.lift {u u' : World} {n c : Nat} {A : Option Addr} {xs : List Rg} (h : RefI u (fun b => b < u.heap.size) A n c xs) (hb : Below u.heap.size u u') : RefI u' (fun b => b < u'.heap.size) A n c xs :=
  h.keep (fun b h => ⟨Nat.lt_of_lt_of_le h hb.size, hb.block b h⟩)
set_option maxRecDepth 100000 in
set_option maxHeartbeats 8000000 in
theorem makes_walk {w : World} {A1 A A' : Option Addr} {n1 c1 n c n' c' : Nat} {p1 : List Rg} {na nb : Bool} {l l' : List Nat} (h1 : SetP w (fun b => b < w.heap.size) A1 n1 c1 p1) (z1 : ZnR p1) (s1 : ∀ p ∈ p1, p.1.n ≤ 1048576 ∧ p.2.n ≤ 1048576) (hn1 : n1 ≤ 1048576)
    (hl : LimP w (fun b => b < w.heap.size) A n c l) (hl' : LimP w (fun b => b < w.heap.size) A' n' c' l') (hn : n ≤ 1048576) (hn' : n' ≤ 1048576) :
    Calls Try.prog 3 #[.slice A1 n1 c1, .agg #[.bool na, .slice A n c], .agg #[.bool nb, .slice A' n' c']] w fun e w' => e = .returned (.bool true) ∧ Below w.heap.size w w' := by
  obtain ⟨B, hB⟩ : ∃ B, w.heap.size = B := ⟨_, rfl⟩
  have HB := Lib.hid hB
  have HI1 := Lib.hid (IBox.of_alloc (w := w) (x := na) (y := .slice A n c))
  have HBa := Lib.hid (show Below w.heap.size w (w.alloc (.cells #[.bool na, .slice A n c] 25)) from (Below.refl _ _).alloc (Nat.le_refl _) _)
  have HI2 := Lib.hid (IBox.of_alloc (w := w.alloc (.cells #[.bool na, .slice A n c] 25)) (x := nb) (y := .slice A' n' c'))
  rw [World.size_alloc] at HI2
  have HBb := Lib.hid (show Below (w.heap.size + 1) (w.alloc (.cells #[.bool na, .slice A n c] 25)) ((w.alloc (.cells #[.bool na, .slice A n c] 25)).alloc (.cells #[.bool nb, .slice A' n' c'] 25)) from (Below.refl _ _).alloc (by simp) _)
  have HI3 := Lib.hid (HI1.out.below (HBb.out.mono (by simp)))
  have HB0 := Lib.hid (show Below w.heap.size w ((w.alloc (.cells #[.bool na, .slice A n c] 25)).alloc (.cells #[.bool nb, .slice A' n' c'] 25)) from HBa.out.trans (HBb.out.mono (by omega)))
  have hZ0 : ((w.alloc (.cells #[.bool na, .slice A n c] 25)).alloc (.cells #[.bool nb, .slice A' n' c'] 25)).heap.size = w.heap.size + 2 := by simp
  have HS := Lib.hid (fun (u : World) (hu : Below B w u) => h1.keep (w' := u) (Q := fun b => b < B) (fun b hb => ⟨by omega, hu.block b (by omega)⟩))
  have HL := Lib.hid (fun (u : World) (hu : Below B w u) => And.intro (hl.keep (w' := u) (Q := fun b => b < B) (fun b hb => ⟨by omega, hu.block b (by omega)⟩)) (hl'.keep (w' := u) (Q := fun b => b < B) (fun b hb => ⟨by omega, hu.block b (by omega)⟩)))
  have HBn := Lib.hid (show Bn2 33554432 (p1.map edsR) from bn2_of (K := 1048576) h1.kid s1)
  have HH := Lib.hid (And.intro z1 (And.intro s1 (And.intro hn1 (And.intro hn hn'))))
  have HLp := Lib.hid h1.row.len
  rw [hB] at HI2 HI3 HB0 hZ0 ⊢
  have HZ0 := Lib.hid hZ0
  clear h1 z1 s1 hn1 hl hl' hn hn' HI1 HBa HBb hB hZ0
  go_enter Try.func3, Try.ntmps3
  go_wp2_with fail
  (with_reducible refine (awake_ok).mono ?_)
  rintro e u1 ⟨he, hb⟩
  subst he
  have HB1 := Lib.hid (HB0.out.trans (hb.mono (by have := HZ0.out; omega)))
  have HZ1 := Lib.hid (show B + 2 ≤ u1.heap.size by have := hb.size; have := HZ0.out; omega)
  have HJ1 := Lib.hid (And.intro (HI3.out.below hb) (HI2.out.below hb))
  clear hb HI3 HI2 HB0 HZ0
  -- the document's set
  go_wp2_with fail
  (with_reducible refine (rOf_any (HS.out _ HB1.out) (fun b hb => by have := HZ1.out; omega) (fun p hp => by have := HH.out.2.1 p hp; omega) (by have := HH.out.2.2.1; omega)).mono ?_)
  rintro e u2 ⟨X, xc, xs, he, hrx, hxs, hb⟩
  subst he
  have HX2 := Lib.hid (refI_of hrx hxs HBn.out HH.out.2.2.1)
  have HXs := Lib.hid hxs
  have HB2 := Lib.hid (HB1.out.trans (hb.mono (by have := HZ1.out; omega)))
  have HZ2 := Lib.hid (show B + 2 ≤ u2.heap.size by have := hb.size; have := HZ1.out; omega)
  have HJ2 := Lib.hid (And.intro (HJ1.out.1.below hb) (HJ1.out.2.below hb))
  clear hrx hxs hb HJ1 HB1 HZ1
  -- the copy
  go_wp2_with fail
  (with_reducible refine (copied_any (HS.out _ HB2.out) (fun b hb => by have := HZ2.out; omega) HH.out.1 (fun p hp => by have := HH.out.2.1 p hp; omega) (by have := HH.out.2.2.1; omega)).mono ?_)
  rintro e u3 ⟨g, ct, qs, mk, he, hrow, hql, hcp, hm1, hm2, hb⟩
  subst he
  have HC3 := Lib.hid (And.intro hrow (And.intro hql (And.intro hcp (And.intro hm1 hm2))))
  have HQe := Lib.hid (show qs.map edsR = p1.map edsR from sm_eds (by rw [hql, HLp.out]) hcp)
  have HB3 := Lib.hid (HB2.out.trans (hb.mono (by have := HZ2.out; omega)))
  have HZ3 := Lib.hid (show B + 2 ≤ u3.heap.size by have := hb.size; have := HZ2.out; omega)
  have HZ23 := Lib.hid hb.size
  have HJ3 := Lib.hid (And.intro (HJ2.out.1.below hb) (HJ2.out.2.below hb))
  have HX3 := Lib.hid (HX2.out.lift hb)
  have HT3 := Lib.hid (show SetP u3 (fun b => b < u3.heap.size) (some ⟨g, 0, none⟩) n1 ct qs from (hrow.wide (Q := fun b => b < u3.heap.size) (fun b hb => hb.elim (fun h => h.elim) (·.2))).pre hql (fun b _ h => h))
  have HSz := Lib.hid (show Szs qs from fun q hq => by
    obtain ⟨j, hj⟩ := List.getElem?_of_mem hq
    obtain ⟨p, hp⟩ : ∃ p, p1[j]? = some p := ⟨p1[j]'(by have := (List.getElem?_eq_some_iff.1 hj).1; have := HLp.out; omega), by simp⟩
    have h2 := hcp j p q hp hj
    have h3 := HH.out.2.1 p (List.mem_of_getElem? hp)
    have h4 := h2.1.2.1
    have h5 := h2.2.2.1
    exact ⟨fun _ => by omega, fun _ => by omega⟩)
  clear hrow hql hcp hm1 hm2 hb HJ2 HB2 HZ2 HX2
  -- Norm
  go_wp2_with fail
  (with_reducible refine (Norm_t HT3.out (fun b h => h) HSz.out (by have := HH.out.2.2.1; omega)).mono ?_)
  rintro e u4 hN
  obtain ⟨An, nn, cn, kn, he⟩ := norm_form hN
  rw [he] at hN
  subst he
  have HN4 := Lib.hid hN
  have HB4 := Lib.hid (HB3.out.trans (hN.1.mono (by have := HZ3.out; omega)))
  have HX4 := Lib.hid (HX3.out.lift hN.1)
  have HZ4 := Lib.hid (show u3.heap.size ≤ u4.heap.size from hN.1.size)
  clear hN HX3
  have HBu := Lib.hid (show Below u4.heap.size u4 (u4.alloc (.cells #[.slice X n1 xc] 28)) from (Below.refl _ _).alloc (Nat.le_refl _) _)
  have hcl : (u4.alloc (.cells #[.slice X n1 xc] 28)).cell? ⟨u4.heap.size, 0, none⟩ = some (.slice X n1 xc) := by
    have h9 := heap_alloc_new u4 (.cells #[.slice X n1 xc] 28)
    rw [cell_of_row _ _ 0 _ _ (0, 0) h9]; rfl
  have HTk := Lib.hid (rTake_any (cG := 1) (HX4.out.lift HBu.out) (fun b h => h) hcl (by simp))
  rw [HXs.out] at HTk
  clear hcl
  go_wp2_with fail
  (with_reducible refine HTk.out.mono ?_)
  rintro e u6 ⟨k, he, hk1, hk2, hb⟩
  subst he
  have HB46 := Lib.hid (show Below u4.heap.size u4 u6 from HBu.out.trans (hb.mono HBu.out.size))
  obtain ⟨Ai, ni, ci, hei, hisc⟩ := is_any (w := u3) HX4.out (fun b h => h) (HXs.out.trans HQe.out.symm) HN4.out (by rw [HQe.out]; exact hk1) (by rw [HQe.out]; exact hk2) (Nat.le_refl _)
  obtain ⟨e1, e2, e3, e4⟩ := tup_inj hei
  subst e1
  subst e2
  subst e3
  subst e4
  have HIs := Lib.hid (hisc u6 HB46.out)
  have HB36 := Lib.hid (show Below u3.heap.size u3 u6 from HN4.out.1.trans (HB46.out.mono HZ4.out))
  clear hk1 hk2 hb hei hisc HTk HBu
  go_wp2_with fail
  (with_reducible refine HIs.out.mono ?_)
  rintro e u7 ⟨he, hb⟩
  subst he
  have HB37 := Lib.hid (HB36.out.trans hb)
  have HZ7 := Lib.hid (show u3.heap.size ≤ u7.heap.size from HB37.out.size)
  clear hb HIs HB36 HB46 HN4 HX4 HZ4
  have HB7 := Lib.hid (show Below B w u7 from HB3.out.trans (HB37.out.mono (by have := HZ3.out; omega)))
  have HHe := Lib.hid (held_true (HC3.out.1.up' (by have := HZ23.out; omega) (fun _ h => h.elim) HB37.out) HC3.out.2.1 (fun j p q hp hq => by
      obtain ⟨⟨a1, a2, a3⟩, ⟨b1, b2, b3⟩⟩ := HC3.out.2.2.1 j p q hp hq
      exact ⟨⟨a1, a2, a3.below HB37.out⟩, ⟨b1, b2, b3.below HB37.out⟩⟩) HC3.out.2.2.2.1 HC3.out.2.2.2.2 (HS.out _ HB7.out) (fun b hb => by have := HZ3.out; have := HZ7.out; omega))
  go_wp2_with fail
  (with_reducible refine HHe.out.mono ?_)
  rintro e u8 ⟨he, hb⟩
  subst he
  have HB8 := Lib.hid (HB7.out.trans (hb.mono (by have := HZ3.out; have := HZ7.out; omega)))
  have HZ8 := Lib.hid (show B + 2 ≤ u8.heap.size by have := hb.size; have := HZ3.out; have := HZ7.out; omega)
  have HJ8 := Lib.hid (show IBox u8 B na (.slice A n c) ∧ IBox u8 (B + 1) nb (.slice A' n' c') from
    ⟨(hb.block B (by have := HZ3.out; have := HZ7.out; omega)).trans ((HB37.out.block B (by have := HZ3.out; omega)).trans HJ3.out.1), (hb.block (B + 1) (by have := HZ3.out; have := HZ7.out; omega)).trans ((HB37.out.block (B + 1) (by have := HZ3.out; omega)).trans HJ3.out.2)⟩)
  clear hb HHe HB7 HB37 HC3 HJ3 HB3 HT3 HSz HZ7 HZ23
  -- the pair
  have hat : Rg.At u8 (fun b => b < B) ((⟨0, na, A, n, c, l⟩ : Bd), (⟨0, nb, A', n', c', l'⟩ : Bd)) := by
    obtain ⟨h1, h2⟩ := HL.out _ HB8.out
    exact ⟨⟨h1, by show (-9223372036854775808 : Int) ≤ 0; omega, by show (0 : Int) ≤ 9223372036854775807; omega⟩, ⟨h2, by show (-9223372036854775808 : Int) ≤ 0; omega, by show (0 : Int) ≤ 9223372036854775807; omega⟩⟩
  have HQb := Lib.hid (show Bn2 33554432 ([((⟨0, na, A, n, c, l⟩ : Bd), (⟨0, nb, A', n', c', l'⟩ : Bd))].map edsR) from bn2_of (K := 1048576) (w := u8) (P := fun b => b < B) (fun p hp => by rw [List.mem_singleton.1 hp]; exact hat) (fun p hp => by rw [List.mem_singleton.1 hp]; exact ⟨HH.out.2.2.2.1, HH.out.2.2.2.2⟩))
  have HRb := Lib.hid (RRow.built hat (fun b hb => by have := HZ8.out; omega))
  have HBu := Lib.hid (show Below u8.heap.size u8 (u8.alloc (.cells (cells6 ((⟨0, na, A, n, c, l⟩ : Bd), (⟨0, nb, A', n', c', l'⟩ : Bd))).toArray 41)) from (Below.refl _ _).alloc (Nat.le_refl _) _)
  have HOf := Lib.hid (rOf_any (w := u8.alloc (.cells (cells6 ((⟨0, na, A, n, c, l⟩ : Bd), (⟨0, nb, A', n', c', l'⟩ : Bd))).toArray 41)) (P := fun b => b < (u8.alloc (.cells (cells6 ((⟨0, na, A, n, c, l⟩ : Bd), (⟨0, nb, A', n', c', l'⟩ : Bd))).toArray 41)).heap.size)
    ((HRb.out.wide (Q := fun b => b < (u8.alloc (.cells (cells6 ((⟨0, na, A, n, c, l⟩ : Bd), (⟨0, nb, A', n', c', l'⟩ : Bd))).toArray 41)).heap.size) (fun b hb => by have := HZ8.out; have := HBu.out.size; omega)).set (fun b _ h => h)) (fun b h => h)
    (fun p hp => by rw [List.mem_singleton.1 hp]; have h3 := HH.out.2.2.2; simp only; omega) (by omega))
  simp only [cells6_eq] at HOf HBu
  have HJx := Lib.hid (show IBox u8 w.heap.size na (.slice A n c) ∧ IBox u8 (w.heap.size + 1) nb (.slice A' n' c') from by rw [HB.out]; exact HJ8.out)
  obtain ⟨x0, x1⟩ := HJx.out.1.cells
  obtain ⟨y0, y1⟩ := HJx.out.2.cells
  clear hat HRb
  go_wp2_with fail
  (with_reducible refine HOf.out.mono ?_)
  rintro e v1 ⟨Y, yc, ys, he, hrx, hxs, hb⟩
  subst he
  have HY1 := Lib.hid (refI_of hrx hxs HQb.out (by omega))
  have HYs := Lib.hid hxs
  have HB89 := Lib.hid (show Below u8.heap.size u8 v1 from HBu.out.trans (hb.mono HBu.out.size))
  have HJ9 := Lib.hid (And.intro (HJ8.out.1.below HB89.out) (HJ8.out.2.below HB89.out))
  have HB9 := Lib.hid (HB8.out.trans (HB89.out.mono (by have := HZ8.out; omega)))
  have HZ9 := Lib.hid (show B + 2 ≤ v1.heap.size by have := HB89.out.size; have := HZ8.out; omega)
  clear hrx hxs hb HOf HBu x0 x1 y0 y1 HJ8 HB89 HB8 HZ8 HQb
  have HJy := Lib.hid (show IBox v1 w.heap.size na (.slice A n c) ∧ IBox v1 (w.heap.size + 1) nb (.slice A' n' c') from by rw [HB.out]; exact HJ9.out)
  obtain ⟨x0, x1⟩ := HJy.out.1.cells
  obtain ⟨y0, y1⟩ := HJy.out.2.cells
  have HFo := Lib.hid (FOf_any (g := na) (g' := nb) (HL.out _ HB9.out).1 (HL.out _ HB9.out).2 (fun b hb => by have := HZ9.out; omega) (by have := HH.out.2.2.2.1; omega) (by have := HH.out.2.2.2.2; omega))
  go_wp2_with fail
  (with_reducible refine HFo.out.mono ?_)
  rintro e v4 hN
  obtain ⟨An2, nn2, cn2, kn2, he⟩ := norm_form hN
  rw [he] at hN
  subst he
  have HN4 := Lib.hid hN
  have HB10 := Lib.hid (HB9.out.trans (hN.1.mono (by have := HZ9.out; omega)))
  have HX4 := Lib.hid (HY1.out.lift hN.1)
  have HZ4 := Lib.hid (show v1.heap.size ≤ v4.heap.size from hN.1.size)
  clear hN HY1 HFo x0 x1 y0 y1 HJ9
  have HBu := Lib.hid (show Below v4.heap.size v4 (v4.alloc (.cells #[.slice Y 1 yc] 28)) from (Below.refl _ _).alloc (Nat.le_refl _) _)
  have hcl : (v4.alloc (.cells #[.slice Y 1 yc] 28)).cell? ⟨v4.heap.size, 0, none⟩ = some (.slice Y 1 yc) := by
    have h9 := heap_alloc_new v4 (.cells #[.slice Y 1 yc] 28)
    rw [cell_of_row _ _ 0 _ _ (0, 0) h9]; rfl
  have HTk := Lib.hid (rTake_any (cG := 1) (HX4.out.lift HBu.out) (fun b h => h) hcl (by simp))
  rw [HYs.out] at HTk
  clear hcl
  go_wp2_with fail
  (with_reducible refine HTk.out.mono ?_)
  rintro e v6 ⟨k2, he, hk1, hk2, hb⟩
  subst he
  have HB46 := Lib.hid (show Below v4.heap.size v4 v6 from HBu.out.trans (hb.mono HBu.out.size))
  obtain ⟨Ai, ni, ci, hei, hisc⟩ := is_any (w := v1) HX4.out (fun b h => h) HYs.out HN4.out hk1 hk2 (Nat.le_refl _)
  obtain ⟨e1, e2, e3, e4⟩ := tup_inj hei
  subst e1
  subst e2
  subst e3
  subst e4
  have HIs := Lib.hid (hisc v6 HB46.out)
  clear hk1 hk2 hb hei hisc HTk HBu
  go_wp2_with fail
  (with_reducible refine HIs.out.mono ?_)
  rintro e v7 ⟨he, hb⟩
  subst he
  have HB11 := Lib.hid (HB10.out.trans ((HB46.out.mono (by have := HZ4.out; have := HZ9.out; omega)).trans (hb.mono (by have := HZ9.out; omega))))
  have HZ11 := Lib.hid (show B ≤ v7.heap.size by have := hb.size; have := HB46.out.size; have := HZ4.out; have := HZ9.out; omega)
  clear hb HIs HB46 HN4 HX4 HZ4 HB10 HB9 HZ9
  go_wp2_with fail
  (with_reducible refine (all_true).mono ?_)
  rintro e v8 ⟨he, hb⟩
  subst he
  have HB12 := Lib.hid (HB11.out.trans (hb.mono HZ11.out))
  have HZ12 := Lib.hid (Nat.le_trans HZ11.out hb.size)
  clear hb
  go_wp2_with fail
  (with_reducible refine (all_true).mono ?_)
  rintro e v9 ⟨he, hb⟩
  subst he
  have HB13 := Lib.hid (HB12.out.trans (hb.mono HZ12.out))
  clear hb
  go_wp2_with fail
  first
    | (go_ret; exact ⟨rfl, HB13.out⟩)
    | exact bodyPost_ret (v := .bool true) (by simp [results, Try.results3, go_sem]) rfl ⟨rfl, HB13.out⟩
end Go.Proofs.Ytpikjceodmepiaa

