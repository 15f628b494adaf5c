import Derived.Test.YtpikjceodmepiaaGreatDoorYub
import Derived.Test.YtpikjceodmepiaaGreatDoorQallb
set_option linter.unusedVariables false
set_option linter.unusedSimpArgs false
namespace Go.Proofs.YtpikjceodmepiaaGreatDoor
open Go.RowKit Hb Hf
set_option linter.unusedVariables false
set_option linter.unusedSimpArgs false
attribute [local go_sem ↓] Go.wp_at_zero Go.wp_at_succ
/-! ### Size -/
theorem size1_le {r : R} {M : Nat} (h : szE r.1 ≤ M ∧ szE r.2 ≤ M) : (size1 r).natAbs ≤ 2 * W ^ M := by
  obtain ⟨a, b⟩ := r
  cases a <;> cases b <;> simp only [size1] <;> try exact Nat.zero_le _
  rename_i x y
  have h1 := lt_of_digs_length (b := W) (by decide) h.1
  have h2 := lt_of_digs_length (b := W) (by decide) h.2
  generalize W ^ M = X at *
  omega
theorem sizeP_append (L N : List R) : sizeP (L ++ N) = sizeP L + sizeP N := by
  induction L with
  | nil => simp [sizeP]
  | cons r L ih => rw [List.cons_append, sizeP, sizeP, ih]; omega
theorem sizeP_take {L : List R} {k : Nat} {r : R} (h : L[k]? = some r) : sizeP (L.take (k + 1)) = sizeP (L.take k) + size1 r := by
  rw [List.take_add_one, h, sizeP_append]
  simp [sizeP]
theorem sizeP_le {M : Nat} : ∀ {L : List R}, Bnd M L → (sizeP L).natAbs ≤ L.length * (2 * W ^ M)
  | [], _ => Nat.zero_le _
  | r :: L, h => by
    have h1 := size1_le (h r List.mem_cons_self)
    have h2 := sizeP_le (L := L) (fun s hs => h s (List.mem_cons_of_mem _ hs))
    rw [sizeP, List.length_cons, Nat.succ_mul]
    omega
theorem size_lim {X n s : Nat} (h : s ≤ n * (2 * X)) (hn : n ≤ 1000) (hX : 0 < X) : s < X * 4294967296 := by
  have h2 : n * (2 * X) ≤ 1000 * (2 * X) := Nat.mul_le_mul_right _ hn
  omega
theorem size_digs {M : Nat} {L : List R} (h : Bnd M L) (hl : L.length ≤ 1000) : (digs W (sizeP L).natAbs).length ≤ M + 1 := by
  have h1 := size_lim (sizeP_le h) hl (Nat.pow_pos (by decide))
  exact digs_length_le (by decide) (by rw [Nat.pow_succ]; exact h1)
theorem Bnd.take {M : Nat} {L : List R} (h : Bnd M L) (k : Nat) : Bnd M (L.take k) := fun r hr => h r (List.mem_of_mem_take hr)
theorem len_add {x y : Int} {m : Nat} (h1 : (digs W x.natAbs).length ≤ m) (h2 : (digs W y.natAbs).length ≤ m) : (digs W (x + y).natAbs).length ≤ m + 1 := by
  have a := lt_of_digs_length (b := W) (by decide) h1
  have b := lt_of_digs_length (b := W) (by decide) h2
  refine digs_length_le (by decide) ?_
  rw [Nat.pow_succ]
  have c : (x + y).natAbs ≤ x.natAbs + y.natAbs := Int.natAbs_add_le x y
  have d : W ^ m * 2 ≤ W ^ m * W := Nat.mul_le_mul_left _ (show 2 ≤ 4294967296 by omega)
  omega
theorem plus_oo {w : World} {B1 B2 c1 c2 : Nat} {A1 A2 : Option Addr} {x y z : Int} (h1 : OwnU w B1 A1 (digs W x.natAbs).length c1 (u32s (digs W x.natAbs))) (h2 : OwnU w B2 A2 (digs W y.natAbs).length c2 (u32s (digs W y.natAbs)))
    (l1 : (digs W x.natAbs).length ≤ 33554432) (l2 : (digs W y.natAbs).length ≤ 33554432) (hz : x + y = z) :
    Calls Tryz.prog 51 #[.agg #[.bool (decide (x < 0)), .slice A1 (digs W x.natAbs).length c1], .agg #[.bool (decide (y < 0)), .slice A2 (digs W y.natAbs).length c2]] w (PostI w z) := by
  have h := plus_any (decide (x < 0)) (decide (y < 0)) (h1.sl (dig_digs (by decide) _) rfl) (h2.sl (dig_digs (by decide) _) rfl) l1 l2 (Nat.le_refl _) (Nat.le_refl _)
  rw [ival_digs, ival_digs, hz] at h
  exact h
theorem plus_ro {w : World} {B B2 n c c2 : Nat} {A A2 : Option Addr} {g : Bool} {l : List Nat} {x y z : Int} (h1 : SlU w B A n c l) (hB : B ≤ w.heap.size) (hx : ival g l = x) (h2 : OwnU w B2 A2 (digs W y.natAbs).length c2 (u32s (digs W y.natAbs)))
    (l1 : n ≤ 33554432) (l2 : (digs W y.natAbs).length ≤ 33554432) (hz : x + y = z) :
    Calls Tryz.prog 51 #[.agg #[.bool g, .slice A n c], .agg #[.bool (decide (y < 0)), .slice A2 (digs W y.natAbs).length c2]] w (PostI w z) := by
  have h := plus_any g (decide (y < 0)) h1 (h2.sl (dig_digs (by decide) _) rfl) l1 l2 hB (Nat.le_refl _)
  rw [hx, ival_digs, hz] at h
  exact h
def SizePost (w : World) (L : List R) (e : Ending) (w' : World) : Prop :=
  ∃ N, NF N ∧ (∀ z, Hf.mem z N ↔ Hf.mem z L) ∧ Below w.heap.size w w' ∧
    ((Hf.fin N ∧ ∃ A c, e = .returned (.tuple #[.agg #[.bool (decide (sizeP N < 0)), .slice A (digs W (sizeP N).natAbs).length c], .bool true, .int .i64 0]) ∧ OwnU w' w.heap.size A (digs W (sizeP N).natAbs).length c (u32s (digs W (sizeP N).natAbs))) ∨
     (¬ Hf.fin N ∧ e = .returned (.tuple #[.agg #[.bool false, .slice none 0 0], .bool false, .int .i64 0])))
/-- the loop's head: the set in its box, the result's box, the sum's box -/
structure SZ (w : World) (B G n1 c1 K M : Nat) (A1 : Option Addr) (qs : List Rg) (A2 : Option Addr) (c2 : Nat) (k : Nat) (wr : World) : Prop where
  bel : Below B w wr
  res : IBox wr (B + 1) false (.slice none 0 0)
  out : SetP wr (fun b => B + 3 ≤ b ∧ b < G) A1 n1 c1 qs
  sum : IBox wr G (decide (sizeP ((qs.map edsR).take k) < 0)) (.slice A2 (digs W (sizeP ((qs.map edsR).take k)).natAbs).length c2)
  own : OwnU wr (B + 3) A2 (digs W (sizeP ((qs.map edsR).take k)).natAbs).length c2 (u32s (digs W (sizeP ((qs.map edsR).take k)).natAbs))
  ne : ∀ g, A2 = some ⟨g, 0, none⟩ → g ≠ G
  fn : Hf.fin ((qs.map edsR).take k)
theorem IBox.of_alloc {w : World} {x : Bool} {y : Value} : IBox (w.alloc (.cells #[.bool x, y] 56)) w.heap.size x y := heap_alloc_new w _
set_option maxRecDepth 100000 in
set_option maxHeartbeats 8000000 in
theorem Size_ok {w : World} {P : Nat → Prop} {A : Option Addr} {n c K M : Nat} {ps : List Rg} (h : SIn w P A n c ps K M) (hP : ∀ b, P b → b < w.heap.size) (hK : K ≤ 1000) (hM : M ≤ 126) :
    Calls Tryz.prog 28 #[.slice A n c] w (SizePost w (ps.map edsR)) := by
  obtain ⟨B, hB⟩ : ∃ B, w.heap.size = B := ⟨_, rfl⟩
  have HB := Lib.hid hB
  have hbe : Below w.heap.size w (((w.alloc (.cells #[.slice A n c] 22)).alloc (.cells #[.bool false, .slice none 0 0] 56)).alloc (.cells #[.pointer (some ⟨w.heap.size, 0, none⟩)] 89)) := (((Below.refl _ _).alloc (Nat.le_refl _) _).alloc (by simp) _).alloc (by simp; omega) _
  have v0 : VBox (((w.alloc (.cells #[.slice A n c] 22)).alloc (.cells #[.bool false, .slice none 0 0] 56)).alloc (.cells #[.pointer (some ⟨w.heap.size, 0, none⟩)] 89)) w.heap.size A n c := by
    have h0 : VBox (w.alloc (.cells #[.slice A n c] 22)) w.heap.size A n c := heap_alloc_new w _
    exact ((((Below.refl _ _).alloc (Nat.le_refl _) _).alloc (by simp) _).block w.heap.size (by simp)).trans h0
  have i0 : IBox (((w.alloc (.cells #[.slice A n c] 22)).alloc (.cells #[.bool false, .slice none 0 0] 56)).alloc (.cells #[.pointer (some ⟨w.heap.size, 0, none⟩)] 89)) (w.heap.size + 1) false (.slice none 0 0) := by
    have h0 : IBox ((w.alloc (.cells #[.slice A n c] 22)).alloc (.cells #[.bool false, .slice none 0 0] 56)) (w.heap.size + 1) false (.slice none 0 0) := by
      have := heap_alloc_new (w.alloc (.cells #[.slice A n c] 22)) (.cells #[.bool false, .slice none 0 0] 56)
      rwa [World.size_alloc] at this
    exact (((Below.refl _ _).alloc (Nat.le_refl _) _).block (w.heap.size + 1) (by simp)).trans h0
  have p0 : (((w.alloc (.cells #[.slice A n c] 22)).alloc (.cells #[.bool false, .slice none 0 0] 56)).alloc (.cells #[.pointer (some ⟨w.heap.size, 0, none⟩)] 89)).cell? ⟨w.heap.size + 1 + 1, 0, none⟩ = some (.pointer (some ⟨w.heap.size, 0, none⟩)) := by
    have := heap_alloc_new ((w.alloc (.cells #[.slice A n c] 22)).alloc (.cells #[.bool false, .slice none 0 0] 56)) (.cells #[.pointer (some ⟨w.heap.size, 0, none⟩)] 89)
    simp only [World.size_alloc] at this
    rw [cell_of_row _ _ 0 _ _ (0, 0) this]; rfl
  have z0 : (((w.alloc (.cells #[.slice A n c] 22)).alloc (.cells #[.bool false, .slice none 0 0] 56)).alloc (.cells #[.pointer (some ⟨w.heap.size, 0, none⟩)] 89)).heap.size = w.heap.size + 3 := by simp
  have HT := Lib.hid (take1 (K := K) (M := M) (r := 0) (ci := 0) (ns := []) (h.keep (Q := P) (fun b hb2 => ⟨hb2, hbe.block b (hP b hb2)⟩)) (fun b hb2 => ⟨by have := hP b hb2; omega, by have := hP b hb2; omega⟩) v0 p0 (by omega) (by omega) (InIn.nil _) (fun x hx => by cases hx) rfl (by omega) hK (by omega))
  have HI0 := Lib.hid (And.intro hbe (And.intro i0 z0))
  have HKM := Lib.hid (And.intro hK hM)
  have HF0 := Lib.hid (fun w1 => from_any 0 w1 (by omega) (by omega))
  obtain ⟨on, hon⟩ : ∃ on : Int, on = 1 := ⟨1, rfl⟩
  have HF1 := Lib.hid (fun w1 => show Calls Tryz.prog 27 #[.int .i64 1] w1 (PostI w1 on) from by rw [hon]; exact from_any 1 w1 (by omega) (by omega))
  have HOn := Lib.hid hon
  clear hon
  unfold SizePost
  rw [hB]
  rw [hB] at HT HI0
  clear h hP hbe v0 i0 p0 z0 hK hM hB
  go_enter Tryz.func28, Tryz.ntmps28
  go_wp2_with fail
  rw [HB.out]
  (with_reducible refine HT.out.mono ?_)
  rintro e w1 ⟨rfl, hch, A1, n1, c1, qs, hv1, ho1, hm1⟩
  rw [HI0.out.2.2] at ho1
  have HO1 := Lib.hid (And.intro hv1 (And.intro ho1 hm1))
  have HC1 := Lib.hid hch
  have HI1 := Lib.hid (show IBox w1 (B + 1) false (.slice none 0 0) from (hch.block (B + 1) (by rw [HI0.out.2.2]; omega) (by simp)).trans HI0.out.2.1)
  have HZ1 := Lib.hid (show B + 3 ≤ w1.heap.size by have := hch.size; rw [HI0.out.2.2] at this; exact this)
  have HBe1 := Lib.hid (show Below B w w1 from (HI0.out.1.mono (by have := HB.out; omega)).trans (hch.below (by rw [HI0.out.2.2]; omega) (fun ad had => by simp at had; omega)))
  obtain ⟨v0, _⟩ := hv1.cell
  clear hch hv1 ho1 hm1 HI0
  go_wp2_with (go_at_call 27; (with_reducible refine (HF0.out _).mono ?_); rintro e w2 ⟨v, rfl, ⟨A2, c2, rfl, ho2⟩, hb2⟩; have HB2 := Lib.hid hb2; have HO2 := Lib.hid ho2; have g1 : B < w2.heap.size := (by have := hb2.size; have := HZ1.out; omega); have v1 : w2.cell? ⟨B, 0, none⟩ = some (.slice A1 n1 c1) := (hb2.cell (p := ⟨B, 0, none⟩) (show B < w1.heap.size by have := HZ1.out; omega)).trans HO1.out.1.cell.1; clear hb2 ho2)
  have hz2 := HB2.out.size
  have HSZ := Lib.hid (show SZ w B w2.heap.size n1 c1 K M A1 qs A2 c2 0 (w2.alloc (.cells #[.bool false, .slice A2 (digs W 0).length c2] 56)) from
    ⟨(HBe1.out.trans (HB2.out.mono (by have := HZ1.out; omega))).alloc (by omega) _, ((HI1.out.below HB2.out).below ((Below.refl _ _).alloc (Nat.le_refl _) _)), (((HO1.out.2.1.lower (B' := B + 3) (by have := HZ1.out; omega)).below HB2.out).set.wide (fun b hb => ⟨hb.1, hb.2⟩)).keep (fun b hb => ⟨hb, ((Below.refl _ _).alloc (Nat.le_refl _) _).block b hb.2⟩), by simpa [sizeP] using (IBox.of_alloc (w := w2) (x := false) (y := .slice A2 (digs W 0).length c2)), by
      have h9 := (Own.mono HO2.out (B' := B + 3) (by have := HZ1.out; omega)).alloc (.cells #[.bool false, .slice A2 (digs W 0).length c2] 56)
      simpa [sizeP] using h9, fun g hg => by
      rcases HO2.out.form with ⟨h1, _⟩ | ⟨g2, h1, _, h2⟩
      · rw [h1] at hg; cases hg
      · rw [h1] at hg; injection hg with hg; injection hg with hg; omega, fun r hr => by simp at hr⟩)
  have HLq := Lib.hid (show (qs.map edsR).length = n1 ∧ n1 ≤ 1000 from ⟨by rw [List.length_map]; exact HO1.out.2.1.row.len, Nat.le_trans HO1.out.2.1.len HKM.out.1⟩)
  have hn9 : n1 ≤ 1000 := HLq.out.2
  obtain ⟨G, hG⟩ : ∃ G, w2.heap.size = G := ⟨_, rfl⟩
  have HGz := Lib.hid (show B + 3 ≤ G ∧ w2.heap.size = G from ⟨by have := HZ1.out; omega, hG⟩)
  rw [hG] at HSZ
  have HNf := Lib.hid (And.intro HO1.out.2.1.nf (And.intro HO1.out.2.1.bnd HO1.out.2.2))
  have HGq := Lib.hid HO1.out.2.1.gd
  clear hz2 HB2 HO2 HI1 HBe1 HC1 v0 HT HF0
  rw [hG]
  clear hG
  go_loopw [18] (fun vi wr => ∃ k A3 c3, k ≤ n1 ∧ vi = .int .i64 (k : Nat) ∧ Hid (SZ w B G n1 c1 K M A1 qs A3 c3 k wr)) (fun vi _ => n1 - (intOf vi).toNat)
  case atStart => exact ⟨0, A2, c2, Nat.zero_le _, rfl, HSZ⟩
  case round =>
    obtain ⟨k, A3, c3, hk, rfl, HI⟩ := hrel
    clear HSZ
    by_cases hkn : k < n1
    · obtain ⟨p, hp⟩ : ∃ p, qs[k]? = some p := ⟨qs[k]'(by have := HLq.out.1; rw [List.length_map] at this; omega), by simp⟩
      obtain ⟨b, o, rfl, hPb, i0, i1, i2, i3, i4, i5⟩ := HI.out.out.row.at_ hp
      have hpm := List.mem_of_getElem? hp
      have HGd := Lib.hid (HGq.out p hpm)
      have HKp := Lib.hid (HI.out.out.kid p hpm)
      have HMm := Lib.hid (HNf.out.2.1 (edsR p) (List.mem_map.2 ⟨p, hpm, rfl⟩))
      have HPk := Lib.hid (show (qs.map edsR)[k]? = some (edsR p) by simp [hp])
      have hX := RBox.new wr p
      have hlG := HI.out.sum.lt
      have hlb : b < wr.heap.size := by omega
      obtain ⟨⟨p1i, p1g, p1A, p1n, p1c, p1l⟩, ⟨p2i, p2g, p2A, p2n, p2c, p2l⟩⟩ := p
      have HX := Lib.hid hX
      simp only [cells6_eq] at HX
      simp only at i0 i1 i2 i3 i4 i5
      have HBx := Lib.hid (show Below wr.heap.size wr (wr.alloc (.cells #[.int .i64 p1i, .bool p1g, .slice p1A p1n p1c, .int .i64 p2i, .bool p2g, .slice p2A p2n p2c] 69)) from (Below.refl _ _).alloc (Nat.le_refl _) _)
      have HRs := Lib.hid (HI.out.res.below HBx.out)
      have HSm := Lib.hid (HI.out.sum.below HBx.out)
      obtain ⟨z0, z1, z2, z3, z4, z5⟩ := HX.out.cells
      obtain ⟨y0, y1⟩ := HRs.out.cells
      obtain ⟨f0, f1⟩ := HRs.out.frozens
      simp only at z0 z1 z2 z3 z4 z5
      have hki : (k : Int) < (n1 : Int) := by omega
      have hk0 : (0 : Int) ≤ (k : Int) := by omega
      have gB1 : B + 1 < wr.heap.size := HI.out.res.lt
      have tt := HGd.out.1.1.tri
      have tt2 := HGd.out.1.2.tri
      unfold Bd.Tri at tt tt2
      simp only at tt tt2
      have HKa := Lib.hid (show LimP wr (Fr (B + 3) wr) p1A p1n p1c p1l from HKp.out.a.lim.wide (fun b hb => ⟨hb.1, by omega⟩))
      have HKb := Lib.hid (show LimP wr (Fr (B + 3) wr) p2A p2n p2c p2l from HKp.out.b.lim.wide (fun b hb => ⟨hb.1, by omega⟩))
      have l1n : p1n ≤ 33554432 := HGd.out.2.1
      have l2n : p2n ≤ 33554432 := HGd.out.2.2
      have a1 : -1 ≤ p1i := by omega
      have a2 : p1i ≤ 1 := by omega
      have a3 : -1 ≤ p2i := by omega
      have a4 : p2i ≤ 1 := by omega
      clear hp hPb hX tt tt2 hlG
      have HSo0 := Lib.hid (HI.out.own.below HBx.out (Nat.le_refl _))
      go_upto_region 8 with fail
      generalize (wr.alloc (.cells #[.int .i64 p1i, .bool p1g, .slice p1A p1n p1c, .int .i64 p2i, .bool p2g, .slice p2A p2n p2c] 69)) = w5 at *
      have h3 : ¬ p1i = 0 ∨ (p1i = 0 ∧ ¬ p2i = 0) ∨ (p1i = 0 ∧ p2i = 0) := by omega
      rcases h3 with c1 | ⟨c1, c2⟩ | ⟨c1, c2⟩
      · have d1 : (p1i == 0) = false := beq_eq_false_iff_ne.2 c1
        have HNo := Lib.hid (show ¬ Hf.fin (qs.map edsR) from fun h => by
          obtain ⟨x, y, e⟩ := h _ (List.mem_of_getElem? HPk.out)
          unfold edsR at e
          injection e with e1 e2
          unfold Bd.ed at e1
          simp only at e1
          split at e1
          · cases e1
          · split at e1
            · cases e1
            · omega)
        clear c1
        go_wp2_with fail
        have HSet := Lib.hid (HRs.out.set2 false (.slice none 0 0))
        have HBu := Lib.hid (HI.out.bel.trans (HBx.out.mono (by omega)))
        have key : (∃ N, NF N ∧ (∀ z, Hf.mem z N ↔ Hf.mem z (ps.map edsR)) ∧ Below B w (w5.setCell ⟨B + 1, 0, none⟩ (.bool false) |>.setCell ⟨B + 1, 1, none⟩ (.slice none 0 0)) ∧
            ((Hf.fin N ∧ ∃ A c, Ending.returned (.tuple #[.agg #[.bool false, .slice none 0 0], .bool false, .int .i64 0]) = .returned (.tuple #[.agg #[.bool (decide (sizeP N < 0)), .slice A (digs W (sizeP N).natAbs).length c], .bool true, .int .i64 0]) ∧ OwnU (w5.setCell ⟨B + 1, 0, none⟩ (.bool false) |>.setCell ⟨B + 1, 1, none⟩ (.slice none 0 0)) B A (digs W (sizeP N).natAbs).length c (u32s (digs W (sizeP N).natAbs))) ∨
             (¬ Hf.fin N ∧ Ending.returned (.tuple #[.agg #[.bool false, .slice none 0 0], .bool false, .int .i64 0]) = .returned (.tuple #[.agg #[.bool false, .slice none 0 0], .bool false, .int .i64 0])))) :=
          ⟨qs.map edsR, HNf.out.1, HNf.out.2.2, HBu.out.grown HSet.out.2 (by have := HBu.out.size; have := HB.out; omega) (fun j e => by injection e with e; omega), .inr ⟨HNo.out, rfl⟩⟩
        generalize (w5.setCell ⟨B + 1, 0, none⟩ (.bool false)).setCell ⟨B + 1, 1, none⟩ (.slice none 0 0) = w9 at *
        obtain ⟨s0, s1⟩ := HSet.out.1.cells
        exact bodyPost_ret (v := .tuple #[.agg #[.bool false, .slice none 0 0], .bool false, .int .i64 0]) (by simp [results, Tryz.results28, go_sem, s0, s1]) rfl key
      · have d2 : (p2i == 0) = false := beq_eq_false_iff_ne.2 c2
        have HNo := Lib.hid (show ¬ Hf.fin (qs.map edsR) from fun h => by
          obtain ⟨x, y, e⟩ := h _ (List.mem_of_getElem? HPk.out)
          unfold edsR at e
          injection e with e1 e2
          unfold Bd.ed at e2
          simp only at e2
          split at e2
          · cases e2
          · split at e2
            · cases e2
            · omega)
        subst c1
        clear c2
        go_wp2_with fail
        have HSet := Lib.hid (HRs.out.set2 false (.slice none 0 0))
        have HBu := Lib.hid (HI.out.bel.trans (HBx.out.mono (by omega)))
        have key : (∃ N, NF N ∧ (∀ z, Hf.mem z N ↔ Hf.mem z (ps.map edsR)) ∧ Below B w (w5.setCell ⟨B + 1, 0, none⟩ (.bool false) |>.setCell ⟨B + 1, 1, none⟩ (.slice none 0 0)) ∧
            ((Hf.fin N ∧ ∃ A c, Ending.returned (.tuple #[.agg #[.bool false, .slice none 0 0], .bool false, .int .i64 0]) = .returned (.tuple #[.agg #[.bool (decide (sizeP N < 0)), .slice A (digs W (sizeP N).natAbs).length c], .bool true, .int .i64 0]) ∧ OwnU (w5.setCell ⟨B + 1, 0, none⟩ (.bool false) |>.setCell ⟨B + 1, 1, none⟩ (.slice none 0 0)) B A (digs W (sizeP N).natAbs).length c (u32s (digs W (sizeP N).natAbs))) ∨
             (¬ Hf.fin N ∧ Ending.returned (.tuple #[.agg #[.bool false, .slice none 0 0], .bool false, .int .i64 0]) = .returned (.tuple #[.agg #[.bool false, .slice none 0 0], .bool false, .int .i64 0])))) :=
          ⟨qs.map edsR, HNf.out.1, HNf.out.2.2, HBu.out.grown HSet.out.2 (by have := HBu.out.size; have := HB.out; omega) (fun j e => by injection e with e; omega), .inr ⟨HNo.out, rfl⟩⟩
        generalize (w5.setCell ⟨B + 1, 0, none⟩ (.bool false)).setCell ⟨B + 1, 1, none⟩ (.slice none 0 0) = w9 at *
        obtain ⟨s0, s1⟩ := HSet.out.1.cells
        exact bodyPost_ret (v := .tuple #[.agg #[.bool false, .slice none 0 0], .bool false, .int .i64 0]) (by simp [results, Tryz.results28, go_sem, s0, s1]) rfl key
      · subst c1
        subst c2
        obtain ⟨x, hx⟩ : ∃ x, ival p1g p1l = x := ⟨_, rfl⟩
        obtain ⟨y, hy⟩ : ∃ y, ival p2g p2l = y := ⟨_, rfl⟩
        have HXY := Lib.hid (And.intro hx hy)
        have HE := Lib.hid (show edsR ((⟨0, p1g, p1A, p1n, p1c, p1l⟩ : Bd), (⟨0, p2g, p2A, p2n, p2c, p2l⟩ : Bd)) = (.num x, .num y) by unfold edsR; rw [Bd.ed_zero rfl, Bd.ed_zero rfl]; unfold Bd.z; rw [hx, hy])
        clear hx hy
        obtain ⟨mx, hmx⟩ : ∃ m, -x = m := ⟨_, rfl⟩
        obtain ⟨dd, hdd⟩ : ∃ m, y + mx = m := ⟨_, rfl⟩
        obtain ⟨tt, htt⟩ : ∃ m, dd + on = m := ⟨_, rfl⟩
        have HLet := Lib.hid (And.intro hmx (And.intro hdd htt))
        have HT1 := Lib.hid (sizeP_take HPk.out)
        rw [HE.out] at HT1 HMm HPk
        have HT2 := Lib.hid (show sizeP ((qs.map edsR).take (k + 1)) = sizeP ((qs.map edsR).take k) + tt from by rw [HT1.out]; show _ + (y - x + 1) = _; have := HOn.out; omega)
        clear hmx hdd htt
        have HS0 := Lib.hid (size_digs (HNf.out.2.1.take k) (by rw [List.length_take]; omega))
        obtain ⟨S, hS⟩ : ∃ S, sizeP ((qs.map edsR).take k) = S := ⟨_, rfl⟩
        rw [hS] at HT2 HS0 HSm
        have hSo := HSo0.out
        rw [hS] at hSo
        have HSo := Lib.hid hSo
        clear hS hSo HT1
        go_upto_region 10 with fail
        refine wp_region_U 12 (by kernel_rfl) (fun z9 K0 hs0 => ?_)
        refine tkW 0 (v := ?tv0_1) K0 rfl (by kernel_rfl) ?tq0_1 (by kernel_rfl) (fun z5 hS => ?ty0_1) ?_
        case ty0_1 => obtain ⟨q0, q1⟩ := (HSm.out.below hS).cells; go_simp; rfl
        case tq0_1 => exact fun _ _ _ h => h
        refine tkW 1 (v := ?tv1_2) K0 rfl (by kernel_rfl) ?tq1_2 (by kernel_rfl) (fun z5 hS => ?ty1_2) ?_
        case ty1_2 => go_simp; rfl
        case tq1_2 => exact fun _ _ _ h => h
        refine tkW 2 (v := ?tv2_3) K0 rfl (by kernel_rfl) ?tq2_3 (by kernel_rfl) (fun z5 hS => ?ty2_3) ?_
        case ty2_3 => go_simp; rfl
        case tq2_3 => exact fun _ _ _ h => h
        refine tkW 3 (v := ?tv3_4) K0 rfl (by kernel_rfl) ?tq3_4 (by kernel_rfl) (fun z5 hS => ?ty3_4) ?_
        case ty3_4 => obtain ⟨q0, q1, q2, q3, q4, q5⟩ := (HX.out.below hS).cells; go_simp; rfl
        case tq3_4 => exact fun _ _ _ h => h
        refine tkW 4 (v := ?tv4_5) K0 rfl (by kernel_rfl) ?tq4_5 (by kernel_rfl) (fun z5 hS => ?ty4_5) ?_
        case ty4_5 => go_simp; rfl
        case tq4_5 => exact fun _ _ _ h => h
        refine tkW 5 (v := ?tv5_6) K0 rfl (by kernel_rfl) ?tq5_6 (by kernel_rfl) (fun z5 hS => ?ty5_6) ?_
        case ty5_6 => go_simp; rfl
        case tq5_6 => exact fun _ _ _ h => h
        refine tkW 6 (v := ?tv6_7) K0 rfl (by kernel_rfl) ?tq6_7 (by kernel_rfl) (fun z5 hS => ?ty6_7) ?_
        case ty6_7 => obtain ⟨q0, q1, q2, q3, q4, q5⟩ := (HX.out.below hS).cells; go_simp; rfl
        case tq6_7 => exact fun _ _ _ h => h
        refine wpAnyW_one (i := 7) (by kernel_rfl) rfl (fun K hK => ?_)
        go_simp
        have HW0 := Lib.hid (HBx.out.trans (K0.mono HBx.out.size))
        (with_reducible refine (neg_any p1g ((HKa.out.sl (B := wr.heap.size) (fun b hb => hb.2)).below HW0.out (Nat.le_refl _)) (by omega) HW0.out.size).mono ?_)
        rintro e u1 ⟨v, rfl, hr1, hb1⟩
        have ex : ival (!p1g) p1l = mx := by rw [← HLet.out.1, ← HXY.out.1]; unfold ival; cases p1g <;> simp
        rw [ex] at hr1
        obtain ⟨A4, c4, rfl, ho4⟩ := hr1
        have K1 := K0.trans (hb1.mono K0.size)
        refine hK.out _ _ (fun _ => K1) ?_
        have L1 : (digs W mx.natAbs).length ≤ M := by rw [← HLet.out.1, Int.natAbs_neg]; exact HMm.out.1
        refine wpAnyW_one (i := 8) (by kernel_rfl) rfl (fun K hK => ?_)
        go_simp
        have HW1 := Lib.hid (HBx.out.trans (K1.mono HBx.out.size))
        (with_reducible refine (plus_ro (z := dd) ((HKb.out.sl (B := wr.heap.size) (fun b hb => hb.2)).below HW1.out (Nat.le_refl _)) HW1.out.size HXY.out.2 ho4 (by omega) (by have := HKM.out; omega) HLet.out.2.1).mono ?_)
        rintro e u2 ⟨v, rfl, ⟨A5, c5, rfl, ho5⟩, hb2⟩
        have K2 := K1.trans (hb2.mono K1.size)
        refine hK.out _ _ (fun _ => K2) ?_
        have L2 : (digs W dd.natAbs).length ≤ M + 1 := by rw [← HLet.out.2.1]; exact len_add HMm.out.2 L1
        refine wpAnyW_one (i := 9) (by kernel_rfl) rfl (fun K hK => ?_)
        go_simp
        (with_reducible refine (HF1.out _).mono ?_)
        rintro e u3 ⟨v, rfl, ⟨A6, c6, rfl, ho6⟩, hb3⟩
        have K3 := K2.trans (hb3.mono K2.size)
        refine hK.out _ _ (fun _ => K3) ?_
        have L3 : (digs W on.natAbs).length ≤ M + 1 := by rw [HOn.out]; exact Nat.le_trans (digs_length_le (k := 1) (by decide) (by rw [Nat.pow_one]; show (1 : Nat) < 4294967296; omega)) (by omega)
        refine wpAnyW_one (i := 10) (by kernel_rfl) rfl (fun K hK => ?_)
        go_simp
        (with_reducible refine (plus_oo (z := tt) (Own.below ho5 hb3 (Nat.le_refl _)) ho6 (by have := HKM.out; omega) (by have := HKM.out; omega) HLet.out.2.2).mono ?_)
        rintro e u4 ⟨v, rfl, ⟨A7, c7, rfl, ho7⟩, hb4⟩
        have K4 := K3.trans (hb4.mono K3.size)
        refine hK.out _ _ (fun _ => K4) ?_
        have L4 : (digs W tt.natAbs).length ≤ M + 2 := by rw [← HLet.out.2.2]; exact len_add L2 L3
        refine wpAnyW_one (i := 11) (by kernel_rfl) rfl (fun K hK => ?_)
        go_simp
        (with_reducible refine (plus_oo (z := sizeP ((qs.map edsR).take (k + 1))) (Own.below HSo.out K4 (Nat.le_refl _)) ho7 (by have := HS0.out; have := HKM.out; omega) (by have := HKM.out; omega) HT2.out.symm).mono ?_)
        rintro e u5 ⟨v, rfl, ⟨A8, c8, rfl, ho8⟩, hb5⟩
        have K5 := K4.trans (hb5.mono K4.size)
        refine hK.out _ _ (fun _ => K5) ?_
        have HSm5 := Lib.hid (HSm.out.below K5)
        obtain ⟨m0, m1⟩ := HSm5.out.cells
        obtain ⟨l0, l1⟩ := HSm5.out.frozens
        refine wpAnyW_one (i := 12) (by kernel_rfl) rfl (fun K hK => ?_)
        go_simp
        refine hK.out _ _ (fun h => absurd h (by simp)) ?_
        refine wpAnyW_done (by kernel_rfl) ?_ _
        have HSet := Lib.hid (HSm5.out.set2 (decide (sizeP ((qs.map edsR).take (k + 1)) < 0)) (.slice A8 (digs W (sizeP ((qs.map edsR).take (k + 1))).natAbs).length c8))
        have HBu := Lib.hid (HBx.out.trans (K5.mono HBx.out.size))
        have HO8 := Lib.hid ho8
        have zz1 := K4.size
        have zz2 := hb5.size
        have zz3 := HBx.out.size
        have HZ8 := Lib.hid (show wr.heap.size ≤ u4.heap.size by omega)
        clear K0 K1 K2 K3 K4 K5 hb1 hb2 hb3 hb4 hb5 ho4 ho5 ho6 ho7 ho8 hs0 L1 L2 L3 L4 m0 m1 l0 l1 zz1 zz2 zz3
        go_wp2_with fail
        go_roundw
        case rel =>
          have hGl := HI.out.sum.lt
          have hG3 := HGz.out.1
          have hu := HBu.out.size
          have hu2 := HSet.out.2.size
          have hz8 := HZ8.out
          refine ⟨k + 1, A8, c8, by omega, by go_num, Lib.hid ⟨(HI.out.bel.trans (HBu.out.mono (by omega))).grown HSet.out.2 (by omega) (fun j e => by injection e with e; omega), (HI.out.res.below HBu.out).gro HSet.out.2 (by omega), ?_, HSet.out.1, ?_, ?_, ?_⟩⟩
          · exact HI.out.out.keep (fun b hb => ⟨hb, (HSet.out.2.block b (by omega) (fun e => by injection e with e; omega)).trans (HBu.out.block b (by omega))⟩)
          · have hne : ∀ g, A8 = some ⟨g, 0, none⟩ → g ≠ G := fun g hg => by
              rcases HO8.out.form with ⟨h1, _⟩ | ⟨g2, h1, h2, _⟩
              · rw [h1] at hg; cases hg
              · rw [h1] at hg; injection hg with hg; injection hg with hg; omega
            exact ((Own.mono HO8.out (B' := B + 3) (by omega)).far hne _).far hne _
          · intro g hg
            rcases HO8.out.form with ⟨h1, _⟩ | ⟨g2, h1, h2, _⟩
            · rw [h1] at hg; cases hg
            · rw [h1] at hg; injection hg with hg; injection hg with hg; omega
          · intro r hr
            rw [List.take_add_one, HPk.out, List.mem_append] at hr
            rcases hr with hr | hr
            · exact HI.out.fn r hr
            · simp only [Option.toList, List.mem_singleton] at hr
              exact ⟨x, y, hr⟩
        case measure => simp [intOf]; omega
    · have hkk : n1 = k := by omega
      subst hkk
      have hki : ¬ ((n1 : Int) < (n1 : Int)) := by omega
      have HTk := Lib.hid (show (qs.map edsR).take n1 = qs.map edsR from List.take_of_length_le (Nat.le_of_eq HLq.out.1))
      have hSm := HI.out.sum
      have hSo := HI.out.own
      have hSn := HI.out.ne
      rw [HTk.out] at hSm hSo
      have HFn := Lib.hid (show Hf.fin (qs.map edsR) from by have := HI.out.fn; rw [HTk.out] at this; exact this)
      have HS0 := Lib.hid (size_digs HNf.out.2.1 (by rw [HLq.out.1]; exact HLq.out.2))
      have HFin := Lib.hid (fun (w' : World) (hb : Below B w w') A c (ho : OwnU w' B A (digs W (sizeP (qs.map edsR)).natAbs).length c (u32s (digs W (sizeP (qs.map edsR)).natAbs))) => show (∃ N, NF N ∧ (∀ z, Hf.mem z N ↔ Hf.mem z (ps.map edsR)) ∧ Below B w w' ∧
        ((Hf.fin N ∧ ∃ A2 c2, Ending.returned (.tuple #[.agg #[.bool (decide (sizeP (qs.map edsR) < 0)), .slice A (digs W (sizeP (qs.map edsR)).natAbs).length c], .bool true, .int .i64 0]) = .returned (.tuple #[.agg #[.bool (decide (sizeP N < 0)), .slice A2 (digs W (sizeP N).natAbs).length c2], .bool true, .int .i64 0]) ∧ OwnU w' B A2 (digs W (sizeP N).natAbs).length c2 (u32s (digs W (sizeP N).natAbs))) ∨
         (¬ Hf.fin N ∧ Ending.returned (.tuple #[.agg #[.bool (decide (sizeP (qs.map edsR) < 0)), .slice A (digs W (sizeP (qs.map edsR)).natAbs).length c], .bool true, .int .i64 0]) = .returned (.tuple #[.agg #[.bool false, .slice none 0 0], .bool false, .int .i64 0])))) from
        ⟨qs.map edsR, HNf.out.1, HNf.out.2.2, hb, .inl ⟨HFn.out, A, c, rfl, ho⟩⟩)
      obtain ⟨S, hS⟩ : ∃ S, sizeP (qs.map edsR) = S := ⟨_, rfl⟩
      rw [hS] at hSm hSo HS0 HFin
      obtain ⟨L, hL⟩ : ∃ L, digs W S.natAbs = L := ⟨_, rfl⟩
      have hdL : Dig 4294967296 L := by rw [← hL]; exact dig_digs (by decide) _
      rw [hL] at hSm hSo HS0 HFin
      have HSm := Lib.hid hSm
      have HSo := Lib.hid hSo
      have HRs := Lib.hid HI.out.res
      have HBl := Lib.hid HI.out.bel
      have HBt := Lib.hid (bits_any (decide (S < 0)) (hSo.sl hdL rfl) (by have := HS0.out; have := HKM.out; omega) (Nat.le_refl _))
      have hbl : ¬ (4096 < (blen (nv W L) : Int)) := by
        have h1 : nv W L < 2 ^ 4096 := by
          refine Nat.lt_of_lt_of_le (nv_lt hdL) ?_
          refine Nat.le_trans (Nat.pow_le_pow_right (by decide) (show L.length ≤ 128 by have := HS0.out; have := HKM.out; omega)) ?_
          show 4294967296 ^ 128 ≤ 2 ^ 4096
          decide +kernel
        have h2 : blen (nv W L) ≤ 4096 := blen_le_iff.2 h1
        omega
      generalize blen (nv W L) = bl at *
      obtain ⟨y0, y1⟩ := hSm.cells
      obtain ⟨f0, f1⟩ := hSm.frozens
      obtain ⟨x0, x1⟩ := HRs.out.cells
      obtain ⟨g0, g1⟩ := HRs.out.frozens
      have hHs := HRs.out.lt
      clear hSm hSo hSn hS hL hdL HI hk
      go_wp2_with (go_at_call 67; (with_reducible refine HBt.out.mono ?_); rintro e w6 ⟨rfl, hb6⟩; have HB6 := Lib.hid hb6; have HR6 := Lib.hid (HRs.out.below hb6); have HM6 := Lib.hid (HSm.out.below hb6); clear hb6 y0 y1 f0 f1 x0 x1 g0 g1; obtain ⟨y0, y1⟩ := HM6.out.cells; obtain ⟨f0, f1⟩ := HM6.out.frozens; obtain ⟨x0, x1⟩ := HR6.out.cells; obtain ⟨g0, g1⟩ := HR6.out.frozens)
      have hne : ∀ g, A3 = some ⟨g, 0, none⟩ → g ≠ B + 1 := fun g hg => by
        rcases HSo.out.form with ⟨h1, _⟩ | ⟨g2, h1, h2, _⟩
        · rw [h1] at hg; cases hg
        · rw [h1] at hg; injection hg with hg; injection hg with hg; omega
      have HSet := Lib.hid (HR6.out.set2 (decide (S < 0)) (.slice A3 L.length c3))
      have HO6 := Lib.hid ((((Own.below HSo.out HB6.out (Nat.le_refl _)).mono (B' := B) (by omega)).far (p := ⟨B + 1, 0, none⟩) hne (.bool (decide (S < 0)))).far (p := ⟨B + 1, 1, none⟩) hne (.slice A3 L.length c3))
      have HBe := Lib.hid ((HBl.out.trans (HB6.out.mono (by omega))).grown HSet.out.2 (by have := HB.out; have := HB6.out.size; omega) (fun j e => by injection e with e; omega))
      have key := HFin.out _ HBe.out A3 c3 HO6.out
      generalize (w6.setCell ⟨B + 1, 0, none⟩ (.bool (decide (S < 0)))).setCell ⟨B + 1, 1, none⟩ (.slice A3 L.length c3) = w9 at *
      obtain ⟨s0, s1⟩ := HSet.out.1.cells
      exact bodyPost_ret (v := .tuple #[.agg #[.bool (decide (S < 0)), .slice A3 L.length c3], .bool true, .int .i64 0]) (by simp [results, Tryz.results28, go_sem, s0, s1]) rfl key
end Go.Proofs.YtpikjceodmepiaaGreatDoor

