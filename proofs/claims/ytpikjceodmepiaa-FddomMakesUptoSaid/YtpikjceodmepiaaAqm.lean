import Derived.Test.YtpikjceodmepiaaApm
set_option linter.unusedVariables false
set_option linter.unusedSimpArgs false
namespace Go.Proofs.Ytpikjceodmepiaa
open Go.RowKit Hb Hf
set_option linter.unusedVariables false
set_option linter.unusedSimpArgs false
attribute [local go_sem ↓] Go.wp_at_zero Go.wp_at_succ
/-! ### the law's held: the copy is as it was, the marks stand -/
theorem RRow.pre {w : World} {B n c g : Nat} {P : Nat → Prop} {qs : List Rg} {mk : Rg} (h : RRow w B P (some ⟨g, 0, none⟩) (n + 1) c (qs ++ [mk])) (hl : qs.length = n) (hP : ∀ b, B ≤ b → b < w.heap.size → P b) : SetP w P (some ⟨g, 0, none⟩) n c qs := by
  have h1 := h.set hP
  refine ⟨⟨hl, by have := h1.row.cap; omega, h1.row.max, fun hq => ?_⟩, fun p hp => h1.kid p (List.mem_append_left _ hp)⟩
  obtain ⟨b, o, e, hp, hc⟩ := h1.row.rd (by simp)
  refine ⟨b, o, e, hp, fun i v hv => hc i v ?_⟩
  rw [fl6_append, List.getElem?_append_left (List.getElem?_eq_some_iff.1 hv).1]
  exact hv
theorem RRow.last {w : World} {B n c g : Nat} {P : Nat → Prop} {qs : List Rg} {mk : Rg} (h : RRow w B P (some ⟨g, 0, none⟩) (n + 1) c (qs ++ [mk])) (hl : qs.length = n) (hP : ∀ b, B ≤ b → b < w.heap.size → P b) : SetP w P (some ⟨g, n * 6, none⟩) 1 (c - n) [mk] := by
  have h1 := h.set hP
  have hcap := h1.row.cap
  have hmax := h1.row.max
  refine ⟨⟨rfl, by omega, by omega, fun _ => ?_⟩, fun p hp => h1.kid p (by rw [List.mem_singleton.1 hp]; exact List.mem_append_right _ List.mem_cons_self)⟩
  obtain ⟨b, o, e, hp, hc⟩ := h1.row.rd (by simp)
  injection e with e
  injection e with e1 e2 e3
  subst e1
  subst e2
  refine ⟨g, n * 6, rfl, hp, fun i v hv => ?_⟩
  have h2 := hc (n * 6 + i) v (by
    rw [fl6_append, List.getElem?_append_right (by rw [fl6_length, hl]; omega), fl6_length, hl, Nat.add_sub_cancel_left]
    exact hv)
  rwa [Nat.zero_add] at h2
set_option maxRecDepth 100000 in
set_option maxHeartbeats 8000000 in
theorem held_true {w : World} {P : Nat → Prop} {A : Option Addr} {B n c cA g : Nat} {ps qs : List Rg} {mk : Rg} (hrow : RRow w B (Or (fun _ => False) B w) (some ⟨g, 0, none⟩) (n + 1) c (qs ++ [mk])) (hq : qs.length = n)
    (hcp : ∀ (j : Nat) (p q : Rg), ps[j]? = some p → qs[j]? = some q → CpB w p.1 q.1 ∧ CpB w p.2 q.2) (hm1 : SmB mk.1 (nb 77 none 0)) (hm2 : SmB mk.2 (nb 78 none 0)) (h : SetP w P A n cA ps) (hP : ∀ b, P b → b < w.heap.size) :
    Calls Try.prog 12 #[.slice (some ⟨g, 0, none⟩) n c, .slice A n cA] w fun e w' => e = .returned (.bool true) ∧ Below w.heap.size w w' := by
  have hrow2 := hrow.wide (Q := fun b => b < w.heap.size) (fun b hb => hb.elim (fun h => h.elim) (·.2))
  have HPre := Lib.hid (fun (y : World) (hy : Below w.heap.size w y) => (hrow2.pre hq (fun b _ h => h)).keep (w' := y) (Q := fun b => b < w.heap.size) (fun b hb => ⟨hb, hy.block b hb⟩))
  have HLast := Lib.hid (fun (y : World) (hy : Below w.heap.size w y) => (hrow2.last hq (fun b _ h => h)).keep (w' := y) (Q := fun b => b < w.heap.size) (fun b hb => ⟨hb, hy.block b hb⟩))
  have HS1 := Lib.hid (sameRanges_parts (P := fun b => b < w.heap.size) (HPre.out w (Below.refl _ _)) (h.wide (fun b hb => hP b hb)) (fun b h => h) rfl (fun k p q hp hq2 => by
    obtain ⟨⟨⟨a1, a2, a3⟩, _⟩, ⟨⟨b1, b2, b3⟩, _⟩⟩ := hcp k q p hq2 hp
    exact ⟨⟨a1.symm, a2.symm, a3.symm⟩, ⟨b1.symm, b2.symm, b3.symm⟩⟩))
  have HMk := Lib.hid (And.intro hm1 hm2)
  have HCp := Lib.hid hcp
  have HLp := Lib.hid (And.intro h.row.len hq)
  have HC6 := Lib.hid (fun (j : Nat) (q : Rg) (hj : qs[j]? = some q) => hrow.cells_at (k := j) (p := q) (by rw [List.getElem?_append_left (List.getElem?_eq_some_iff.1 hj).1]; exact hj))
  have hcap := hrow.cap
  have hmax := hcap.2
  have hcapA := h.row.cap
  have hmaxA := h.row.max
  unfold maxLen at hmax hmaxA
  have hgl : g < w.heap.size := by
    obtain ⟨g', e, _, h2, _⟩ := hrow.some_ (by omega)
    injection e with e
    injection e with e
    omega
  obtain ⟨B0, hB0⟩ : ∃ B0, w.heap.size = B0 := ⟨_, rfl⟩
  have HB0 := Lib.hid hB0
  rw [hB0] at HPre HLast HS1 hgl ⊢
  clear hrow hrow2 hq hcp hm1 hm2 h hP hB0
  go_enter Try.func12, Try.ntmps12
  go_wp2_with fail
  (with_reducible refine HS1.out.mono ?_)
  rintro e w1 ⟨he, hb1⟩
  subst he
  have HB1 := Lib.hid hb1
  clear hb1 HS1
  have hnc : n ≤ c := by omega
  have hcn : ¬ c = n := by omega
  have hnc1 : n + 1 ≤ c := by omega
  have hni : (n : Int) + 1 ≤ (c : Int) := by omega
  have hwn : IntKind.i64.wrap ((n : Int) + 1) = (n : Int) + 1 := IntWalk.i64_in _ (by omega)
  go_upto_region 2 with fail
  obtain ⟨z7, hz7⟩ : ∃ z : Int, z = 77 := ⟨_, rfl⟩
  obtain ⟨z8, hz8⟩ : ∃ z : Int, z = 78 := ⟨_, rfl⟩
  have HTo := Lib.hid (fun y => show Calls Try.prog 27 #[.int .i64 77, .int .i64 78] y (RangePost z7 z8 y) by rw [hz7, hz8]; exact to_ok 77 78 (by omega) (by omega) (by omega) (by omega))
  have HZ7 := Lib.hid (And.intro hz7 hz8)
  clear hz7 hz8
  refine wp_region_H (by kernel_rfl) (fun z0 K0 hs0 => ?_)
  refine tkH 0 (v := ?tv0_1) K0 rfl (by kernel_rfl) ?tq0_1 (by kernel_rfl) (fun z5 hS => ?ty0_1) ?_
  case ty0_1 => go_simp; rfl
  case tq0_1 => exact fun _ _ _ h => h
  refine tkH 1 (v := ?tv1_2) K0 rfl (by kernel_rfl) ?tq1_2 (by kernel_rfl) (fun z5 hS => ?ty1_2) ?_
  case ty1_2 => go_simp; rfl
  case tq1_2 => exact fun _ _ _ h => h
  refine tkH 2 (v := ?tv2_3) K0 rfl (by kernel_rfl) ?tq2_3 (by kernel_rfl) (fun z5 hS => ?ty2_3) ?_
  case ty2_3 => go_simp; rfl
  case tq2_3 => exact fun _ _ _ h => h
  refine tkH 3 (v := ?tv3_4) K0 rfl (by kernel_rfl) ?tq3_4 (by kernel_rfl) (fun z5 hS => ?ty3_4) ?_
  case ty3_4 => go_simp; rfl
  case tq3_4 => exact fun _ _ _ h => h
  refine tkH 4 (v := ?tv4_5) K0 rfl (by kernel_rfl) ?tq4_5 (by kernel_rfl) (fun z5 hS => ?ty4_5) ?_
  case ty4_5 => go_simp; rfl
  case tq4_5 => exact fun _ _ _ h => h
  refine tkH 5 (v := ?tv5_6) K0 rfl (by kernel_rfl) ?tq5_6 (by kernel_rfl) (fun z5 hS => ?ty5_6) ?_
  case ty5_6 => go_simp; rfl
  case tq5_6 => exact fun _ _ _ h => h
  refine tkH 6 (v := ?tv6_7) K0 rfl (by kernel_rfl) ?tq6_7 (by kernel_rfl) (fun z5 hS => ?ty6_7) ?_
  case ty6_7 => go_simp; rfl
  case tq6_7 => exact fun _ _ _ h => h
  refine wpAnyH_one (i := 7) (by kernel_rfl) rfl (by kernel_rfl) (fun K hK => ?_)
  go_simp
  (with_reducible refine (HTo.out _).mono ?_)
  rintro e z1 ⟨A5, A6, c5, c6, he, hat, hb1⟩
  have HAt := Lib.hid hat
  simp only [rgV, tR, cells6, nb, Bd.vals, List.cons_append, List.nil_append] at he
  subst he
  have K1 := K0.trans (hb1.mono K0.size)
  refine hK.out _ _ K1 ?_
  clear hat
  refine wpAnyH_one (i := 8) (by kernel_rfl) rfl (by kernel_rfl) (fun K hK => ?_)
  go_simp
  have HBu := Lib.hid (show Below z1.heap.size z1 (z1.alloc (.cells (cells6 (tR z7 z8 A5 A6 c5 c6)).toArray 41)) from (Below.refl _ _).alloc (Nat.le_refl _) _)
  have HRb := Lib.hid (RRow.built HAt.out (fun b hb => hb.2))
  have K2 := K1.trans (HBu.out.mono K1.size)
  have HB2 := Lib.hid (HB1.out.trans (K2.mono (by have := HB1.out.size; have := HB0.out; omega)))
  have HS2 := Lib.hid (sameRanges_parts (w := z1.alloc (.cells (cells6 (tR z7 z8 A5 A6 c5 c6)).toArray 41)) (P := fun b => b < (z1.alloc (.cells (cells6 (tR z7 z8 A5 A6 c5 c6)).toArray 41)).heap.size) ((HLast.out _ HB2.out).wide (fun b hb => Nat.lt_of_lt_of_le hb (by have := HB2.out.size; have := HB0.out; omega)))
    ((HRb.out.wide (Q := fun b => b < (z1.alloc (.cells (cells6 (tR z7 z8 A5 A6 c5 c6)).toArray 41)).heap.size) (fun b hb => Nat.lt_of_lt_of_le hb.2 HBu.out.size)).set (fun b _ h => h)) (fun b h => h) rfl (fun k p q hp hq => by
      have hk : k = 0 := by have := (List.getElem?_eq_some_iff.1 hp).1; simp at this; omega
      subst hk
      simp only [List.getElem?_cons_zero, Option.some.injEq] at hp hq
      subst hp
      subst hq
      obtain ⟨⟨a1, a2, a3⟩, ⟨b1, b2, b3⟩⟩ := HMk.out
      exact ⟨⟨a1, by rw [a2]; show decide ((77 : Int) < 0) = decide (z7 < 0); rw [HZ7.out.1], by rw [a3]; show digs W (77 : Int).natAbs = digs W z7.natAbs; rw [HZ7.out.1]⟩, ⟨b1, by rw [b2]; show decide ((78 : Int) < 0) = decide (z8 < 0); rw [HZ7.out.2], by rw [b3]; show digs W (78 : Int).natAbs = digs W z8.natAbs; rw [HZ7.out.2]⟩⟩))
  simp only [tR, cells6, nb, Bd.vals, List.cons_append, List.nil_append] at HS2
  simp only [tR, cells6, nb, Bd.vals, List.cons_append, List.nil_append] at K2
  refine hK.out _ _ K2 ?_
  refine wpAnyH_one (i := 9) (by kernel_rfl) rfl (by kernel_rfl) (fun K hK => ?_)
  go_simp
  (with_reducible refine HS2.out.mono ?_)
  rintro e z3 ⟨he, hb3⟩
  subst he
  have K3 := K2.trans (hb3.mono K2.size)
  refine hK.out _ _ K3 ?_
  refine wpAnyH_one (i := 10) (by kernel_rfl) rfl (by kernel_rfl) (fun K hK => ?_)
  go_simp
  refine hK.out _ _ K3 ?_
  refine wpAnyH_end (by kernel_rfl) ?_ _
  have HB3 := Lib.hid (show Below B0 w z3 from HB1.out.trans (K3.mono (by have := HB1.out.size; have := HB0.out; omega)))
  clear K0 K1 K2 K3 hb1 hb3 hs0 HS2 HRb HBu HAt HLast HTo HB1 HB2
  go_wp2_with fail
  go_loopw [7] (fun vi wr => ∃ i, i ≤ n ∧ vi = .int .i64 (i : Nat) ∧ Hid (Below B0 w wr)) (fun vi _ => n - (intOf vi).toNat)
  case atStart => exact ⟨0, Nat.zero_le _, rfl, HB3⟩
  case round =>
    obtain ⟨i, hi, rfl, HI⟩ := hrel
    clear HB3
    by_cases hin : i < n
    · obtain ⟨p, hp⟩ : ∃ p, ps[i]? = some p := ⟨ps[i]'(by have := HLp.out.1; omega), by simp⟩
      obtain ⟨q, hq⟩ : ∃ q, qs[i]? = some q := ⟨qs[i]'(by have := HLp.out.2; omega), by simp⟩
      obtain ⟨⟨_, _, x, cur, fz, hA, hxb, hx1, hx2, hx3⟩, ⟨_, _, y, cur', fz', hA', hyb, hy1, hy2, hy3⟩⟩ := HCp.out i p q hp hq
      obtain ⟨i0, i1, i2, i3, i4, i5⟩ := HC6.out i q hq
      have blk : ∀ b, b < B0 → wr.heap[b]? = w.heap[b]? := fun b hb => HI.out.block b hb
      have hxl : x < B0 := by rw [← HB0.out]; exact (Array.getElem?_eq_some_iff.1 hxb).1
      have hyl : y < B0 := by rw [← HB0.out]; exact (Array.getElem?_eq_some_iff.1 hyb).1
      have i2' := (World.cell?_of_block (a := ⟨g, i * 6 + 2, none⟩) (blk g hgl)).trans i2
      have i5' := (World.cell?_of_block (a := ⟨g, i * 6 + 5, none⟩) (blk g hgl)).trans i5
      have hx3' := (World.cell?_of_block (a := ⟨x, q.1.n, none⟩) (blk x hxl)).trans hx3
      have hy3' := (World.cell?_of_block (a := ⟨y, q.2.n, none⟩) (blk y hyl)).trans hy3
      obtain ⟨⟨q1i, q1g, q1A, q1n, q1c, q1l⟩, ⟨q2i, q2g, q2A, q2n, q2c, q2l⟩⟩ := q
      simp only at hA hA' hx1 hx2 hy1 hy2 i2' i5' hx3' hy3'
      subst hA
      subst hA'
      unfold maxLen at hx2 hy2
      have hii : (i : Int) < (n : Int) := by omega
      have hi0 : (0 : Int) ≤ (i : Int) := by omega
      have hw1 : IntKind.i64.wrap ((q1n : Int) + 1) = (q1n : Int) + 1 := IntWalk.i64_in _ (by omega)
      have hw2 : IntKind.i64.wrap ((q2n : Int) + 1) = (q2n : Int) + 1 := IntWalk.i64_in _ (by omega)
      have hc1 : (q1n : Int) + 1 ≤ (q1c : Int) := by omega
      have hc2 : (q2n : Int) + 1 ≤ (q2c : Int) := by omega
      clear hp hq i0 i1 i2 i3 i4 i5 blk hx3 hy3 hxb hyb
      go_wp2_with fail
      exact ⟨⟨i + 1, by omega, by go_num, HI⟩, by simp [intOf]; omega⟩
    · have hii : ¬ (i : Int) < (n : Int) := by omega
      go_wp2_with fail
      exact bodyPost_ret (v := .bool true) (by simp [results, Try.results12, go_sem]) rfl ⟨rfl, HI.out⟩
end Go.Proofs.Ytpikjceodmepiaa

