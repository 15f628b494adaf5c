import Derived.Test.YtggdmhkdmkldoaaRx
import Derived.Test.YtggdmhkdmkldoaaMath
import Derived.StillTailTactics
namespace Go.Proofs.Ytggdmhkdmkldoaa
open Go.RowKit Hb
set_option linter.unusedVariables false
set_option linter.unusedSimpArgs false

/-- an integer with the owner's marks behind its limbs -/
def LentPost (w : World) (s : Bool) (l : List Nat) (n : Nat) (e : Ending) (w' : World) : Prop :=
  ∃ g c, e = .returned (.agg #[.bool s, .slice (some ⟨g, 0, none⟩) n c]) ∧ OwnU w' w.heap.size (some ⟨g, 0, none⟩) (n + 3) c (u32s (l ++ [77, 77, 77])) ∧ Below w.heap.size w w'
theorem dig_three : Dig W [77, 77, 77] := Dig.cons (by decide) (Dig.cons (by decide) (Dig.cons (by decide) (Dig.nil _)))
theorem own_three (w : World) {B : Nat} (hB : B ≤ w.heap.size) : OwnU (w.alloc (.cells #[.int .u32 77, .int .u32 77, .int .u32 77] 48)) B (some ⟨w.heap.size, 0, none⟩) 3 3 (u32s [77, 77, 77]) :=
  Own.of_block (xs := u32s [77, 77, 77]) (by exact heap_alloc_new w _) hB (by simp [u32s, maxLen])
set_option maxRecDepth 100000 in
set_option maxHeartbeats 2000000 in
theorem lent_any (s : Bool) {B : Nat} {A : Option Addr} {l : List Nat} {n c : Nat} {w : World} (hs : SlU w B A n c l) (hA : A = none → c = 0) (hn : n ≤ 2097152) (hB : B ≤ w.heap.size) :
    Calls Try.prog 19 #[.agg #[.bool s, .slice A n c]] w (LentPost w s l n) := by
  have hcp := hs.cap
  have HB := Lib.hid (((Below.refl w.heap.size w).alloc (Nat.le_refl _) (.cells #[.bool s, .slice A n c] 24)).alloc (by simp) (.cells #[.bool false, .slice none 0 0] 24))
  have HX0 := Lib.hid ((Bx.new w (.bool s) (.slice A n c)).alloc (.cells #[.bool false, .slice none 0 0] 24))
  have hx1 := Bx.new (w.alloc (.cells #[.bool s, .slice A n c] 24)) (.bool false) (.slice none 0 0)
  rw [World.size_alloc] at hx1
  have HX1 := Lib.hid hx1
  have HS := Lib.hid (fun w1 (hb : Below w.heap.size w w1) => hs.below (C := w.heap.size) hb hB)
  have HA := Lib.hid hA
  have HN := Lib.hid hn
  have HD := Lib.hid (And.intro hs.dig hs.len)
  have hnI : (n : Int) ≤ 2097152 := by omega
  have hnc : (n : Int) ≤ (c : Int) := by omega
  clear hs hA hB hx1 hn hcp
  go_enter Try.func19, Try.ntmps19
  go_upto_region 1 with fail
  generalize ((w.alloc (.cells #[.bool s, .slice A n c] 24)).alloc (.cells #[.bool false, .slice none 0 0] 24)) = w2 at *
  obtain ⟨a0, a1, _, _⟩ := HX0.out.facts
  have oe : OwnU (w2.alloc (.cells #[] 48)) w2.heap.size (some ⟨w2.heap.size, 0, none⟩) 0 0 (u32s []) := Own.of_block (xs := []) (by exact heap_alloc_new w2 _) (Nat.le_refl _) (by simp [maxLen])
  have HOE := Lib.hid oe
  have KE := Lib.hid ((Below.refl w2.heap.size w2).alloc (Nat.le_refl _) (.cells #[] 48))
  have a0' := (HX0.out.alloc (.cells #[] 48)).facts.1
  have a1' := (HX0.out.alloc (.cells #[] 48)).facts.2.1
  have hle2 : w2.heap.size ≤ (w2.alloc (.cells #[] 48)).heap.size := by simp
  clear oe
  go_wp2_with (first
    | (at_builtin; ((refine wpList_plain (by rfl) fun K hK => ?_); (refine wp_append_far (base := w2.heap.size) (l0 := []) (l := l) (A := A) (A0 := some ⟨w2.heap.size, 0, none⟩) (n0 := 0) (c0 := 0) (m := n) (c := c) _ _ (by rfl) (by rfl) HOE.out (by rfl) HA.out (HS.out _ (HB.out.trans (KE.out.mono HB.out.size))) (Nat.le_trans (Nat.le_of_eq (Nat.zero_add _)) (Nat.le_trans HN.out (by decide))) hle2 ?_); intro A3 c3 w3 ho3 hb3 _ _; (refine hK _ _ ?_)))
    | (at_builtin; ((refine wpList_plain (by rfl) fun K hK => ?_); (refine wp_append_far (base := w2.heap.size) (l0 := l) (l := [77, 77, 77]) (A := some ⟨w3.heap.size, 0, none⟩) (A0 := A3) (n0 := n) (c0 := c3) (m := 3) (c := 3) _ _ (by rfl) (by rfl) (Own.alloc (show OwnU w3 w2.heap.size A3 n c3 (u32s l) by have := ho3; rwa [Nat.zero_add, List.nil_append] at this) _) (by rfl) (fun h => by cases h) (Own.sl (own_three w3 (B := w2.heap.size) (Nat.le_trans hle2 hb3.size)) dig_three rfl) (Nat.le_trans (Nat.add_le_add_right HN.out 3) (by decide)) (Nat.le_trans (Nat.le_trans hle2 hb3.size) (by simp)) ?_); intro A4 c4 w4 ho4 hb4 _ _; (refine hK _ _ ?_))))
  obtain ⟨g, rfl, hg1, hg2⟩ := Own.at_ ho4 (by omega)
  have hcap := Own.cap ho4
  obtain ⟨hcap1, hcap2⟩ := hcap
  unfold maxLen at hcap2
  have HO4 := Lib.hid ho4
  have K4 : Below w2.heap.size w2 w4 := KE.out.trans (hb3.trans ((((Below.refl w3.heap.size w3).alloc (Nat.le_refl _) _).mono (Nat.le_trans hle2 hb3.size)).trans hb4))
  have HK4 := Lib.hid (show Below w2.heap.size w2 w4.drew from K4.drew)
  have HB4 := Lib.hid (HB.out.trans (K4.mono HB.out.size))
  have hz2 := HB.out.size
  have hl1 := Bx.lt HX1.out
  clear a0 a1 a0' a1' ho3 hb3 ho4 hb4 K4
  refine wp_region_wait (fun w' => w'.cell? ⟨w.heap.size, 0, none⟩ = some (.bool s) ∧ w'.cell? ⟨w.heap.size, 1, none⟩ = some (.slice A n c)) 8 (by kernel_rfl) ?_
  change wpAnyW _ _ _ _ _ _ _ _ _ w4.drew
  have HO5 := Lib.hid (show OwnU w4.drew w2.heap.size (some ⟨g, 0, none⟩) (n + 3) c4 (u32s (l ++ [77, 77, 77])) from HO4.out)
  have HB5 := Lib.hid (show Below w.heap.size w w4.drew from HB4.out.drew)
  clear HO4 HB4 hg2
  generalize w4.drew = w5 at *
  have HSC := Lib.hid (And.intro (HX0.out.below HK4.out (Bx.lt HX0.out)).facts.1 (HX0.out.below HK4.out (Bx.lt HX0.out)).facts.2.1)
  have e1 : (n : Int) ≤ (c4 : Int) := by omega
  have e2 : (0 : Int) ≤ (n : Int) := by omega
  have e3 : (n : Int) ≤ (n : Int) + 3 := by omega
  refine wpAnyW_take 8 (i := 0) (v := .pointer (some ⟨w.heap.size, 0, none⟩)) rfl (by kernel_rfl) (by kernel_rfl) (by kernel_rfl) (by kernel_rfl) (fun _ _ _ h => h) (Or.inl ⟨by kernel_rfl, fun w5 hSw => by go_simp⟩) HSC.out ?_
  refine wpAnyW_take 8 (i := 1) (v := .bool s) rfl (by kernel_rfl) (by kernel_rfl) (by kernel_rfl) (by kernel_rfl) (fun _ _ _ h => h) (Or.inl ⟨by kernel_rfl, fun w5 hSw => by go_simp⟩) HSC.out ?_
  refine wpAnyW_take 8 (i := 2) (v := .slice (some ⟨g, 0, none⟩) (n + 3) c4) rfl (by kernel_rfl) (by kernel_rfl) (by kernel_rfl) (by kernel_rfl) (fun _ _ _ h => h) (Or.inl ⟨by kernel_rfl, fun w5 hSw => by go_simp⟩) HSC.out ?_
  refine wpAnyW_take 8 (i := 3) (v := .pointer (some ⟨w.heap.size, 1, none⟩)) rfl (by kernel_rfl) (by kernel_rfl) (by kernel_rfl) (by kernel_rfl) (fun _ _ _ h => h) (Or.inl ⟨by kernel_rfl, fun w5 hSw => by go_simp⟩) HSC.out ?_
  refine wpAnyW_take 8 (i := 4) (v := .slice A n c) rfl (by kernel_rfl) (by kernel_rfl) (by kernel_rfl) (by kernel_rfl) (fun _ _ _ h => h) (Or.inl ⟨by kernel_rfl, fun w5 hSw => by go_simp⟩) HSC.out ?_
  refine wpAnyW_take 8 (i := 5) (v := .int .i64 (n : Int)) rfl (by kernel_rfl) (by kernel_rfl) (by kernel_rfl) (by kernel_rfl) (fun _ _ _ h => h) (Or.inl ⟨by kernel_rfl, fun w5 hSw => by go_simp⟩) HSC.out ?_
  refine wpAnyW_take 8 (i := 6) (v := .slice (some ⟨g, 0, none⟩) n c4) rfl (by kernel_rfl) (by kernel_rfl) (by kernel_rfl) (by kernel_rfl) (fun _ _ _ h => h) (Or.inl ⟨by kernel_rfl, fun w5 hSw => by go_simp⟩) HSC.out ?_
  refine wpAnyW_take 8 (i := 7) (v := .agg #[.bool s, .slice (some ⟨g, 0, none⟩) n c4]) rfl (by kernel_rfl) (by kernel_rfl) (by kernel_rfl) (by kernel_rfl) (fun _ _ _ h => h) (Or.inl ⟨by kernel_rfl, fun w5 hSw => by go_simp⟩) HSC.out ?_
  go_simp
  refine wpAnyW_one (i := 8) (by kernel_rfl) rfl (fun K hK => ?_)
  obtain ⟨t0, t1, t2, t3⟩ := (HX1.out.below HK4.out hl1).facts
  go_simp
  refine hK.out _ _ (fun h => absurd h (by simp)) ?_
  refine wpAnyW_done (by kernel_rfl) ?_ _
  have hgn : g ≠ w.heap.size + 1 := by omega
  go_wp2
  exact bodyPost_ret (v := .agg #[.bool s, .slice (some ⟨g, 0, none⟩) n c4]) (by simp [results, Try.results19, go_sem, t0, t1]) rfl
    ⟨g, c4, rfl, Own.mono (Own.farB (Own.farB HO5.out (p := ⟨w.heap.size + 1, 0, none⟩) hl1 _) (p := ⟨w.heap.size + 1, 1, none⟩) hl1 _) hz2, (HB5.out.setCell (by simp) _).setCell (by simp) _⟩
end Go.Proofs.Ytggdmhkdmkldoaa

/-
  Bits in limbs: plain arithmetic.
-/
namespace Hb

/-- the limb number i of bits -/
def lim (B : List Nat) (i : Nat) : Nat := nv 2 ((B.drop (32 * i)).take 32)
def lims (B : List Nat) : Nat → List Nat | 0 => [] | m + 1 => lims B m ++ [lim B m]
theorem lims_length (B : List Nat) : ∀ m, (lims B m).length = m | 0 => rfl | m + 1 => by rw [lims, List.length_append, lims_length B m]; rfl
theorem lim_lt {B : List Nat} (hd : Dig 2 B) (i : Nat) : lim B i < 4294967296 := by
  have h := nv_lt ((hd.drop (32 * i)).take 32)
  have h2 : ((B.drop (32 * i)).take 32).length ≤ 32 := List.length_take_le _ _
  have h3 := Nat.pow_le_pow_right (n := 2) (by decide) h2
  exact Nat.lt_of_lt_of_le h h3
theorem lims_dig {B : List Nat} (hd : Dig 2 B) : ∀ m, Dig W (lims B m)
  | 0 => Dig.nil _
  | m + 1 => (lims_dig hd m).append (Dig.cons (lim_lt hd m) (Dig.nil _))
theorem lims_nv (B : List Nat) : ∀ m, nv W (lims B m) = nv 2 (B.take (32 * m))
  | 0 => by simp [lims, nv]
  | m + 1 => by
    rw [lims, nv_snoc, lims_length, lims_nv B m]
    have h := nv_take_drop 2 (B.take (32 * (m + 1))) (32 * m)
    rw [List.take_take, Nat.min_eq_left (by omega), List.drop_take, show 32 * (m + 1) - 32 * m = 32 by omega] at h
    rw [h]
    by_cases hl : 32 * m ≤ B.length
    · rw [List.length_take, show min (32 * m) (min (32 * (m + 1)) B.length) = 32 * m by omega, ← W_pow_eq]; rfl
    · have e : lim B m = 0 := by unfold lim; rw [List.drop_eq_nil_of_le (by omega)]; rfl
      have e2 : nv 2 ((B.drop (32 * m)).take 32) = 0 := e
      rw [e, e2, Nat.mul_zero, Nat.mul_zero]
theorem lims_all {B : List Nat} {m : Nat} (h : B.length ≤ 32 * m) : nv W (lims B m) = nv 2 B := by
  rw [lims_nv, List.take_of_length_le h]
/-- enough limbs, none too many: the canonical ones -/
theorem lims_digs {B : List Nat} (hd : Dig 2 B) (hn : Nrm B) {m : Nat} (h1 : B.length ≤ 32 * m) (h2 : 32 * m < B.length + 32) : lims B m = digs W (nv 2 B) := by
  rw [← lims_all h1]
  refine nrm_eq_digs (by decide) (lims_dig hd m) (nrm_of_getD fun hne => ?_)
  rw [lims_length]
  obtain ⟨k, rfl⟩ : ∃ k, m = k + 1 := ⟨m - 1, by
    rcases Nat.eq_zero_or_pos m with h | h
    · subst h; exact absurd rfl hne
    · omega⟩
  have e : (lims B (k + 1)).getD (k + 1 - 1) 0 = lim B k := by
    rw [lims, Nat.add_sub_cancel, List.getD_eq_getElem?_getD, List.getElem?_append_right (by rw [lims_length]; omega), lims_length]; simp
  rw [e]
  have h3 : (B.drop (32 * k)).take 32 = B.drop (32 * k) := List.take_of_length_le (by rw [List.length_drop]; omega)
  unfold lim
  rw [h3]
  have hne2 : B.drop (32 * k) ≠ [] := by
    intro e2
    have := congrArg List.length e2
    rw [List.length_drop] at this
    simp at this; omega
  have hnd : Nrm (B.drop (32 * k)) := nrm_of_getD fun _ => by
    have hB : B ≠ [] := fun e2 => by subst e2; simp at hne2
    have h4 := nrm_getD hn hB
    rw [List.length_drop, List.getD_eq_getElem?_getD, List.getElem?_drop]
    rw [List.getD_eq_getElem?_getD] at h4
    rw [show 32 * k + (B.length - 32 * k - 1) = B.length - 1 by omega]
    exact h4
  exact Nat.ne_of_gt (nv_pos (by decide) hnd hne2)
end Hb

namespace Go.Proofs.Ytggdmhkdmkldoaa
open Go.RowKit Hb

/-! ### Int: bits to limbs -/
theorem limb_step {T : List Nat} (hd : Dig 2 T) (hl : T.length ≤ 32) {k : Nat} (hk : k < 32) : nv 2 (T.drop k) = 2 * nv 2 (T.drop (k + 1)) + T.getD k 0 ∧ nv 2 (T.drop k) < 4294967296 ∧ 2 * nv 2 (T.drop (k + 1)) < 4294967296 := by
  have h1 : nv 2 (T.drop k) = T.getD k 0 + 2 * nv 2 (T.drop (k + 1)) := by
    by_cases h : k < T.length
    · exact drop_nv 2 T h
    · rw [List.drop_eq_nil_of_le (by omega), List.drop_eq_nil_of_le (by omega), getD_past (by omega)]; rfl
  have h2 := nv_lt (hd.drop k)
  have h3 := Nat.pow_le_pow_right (n := 2) (by decide) (show (T.drop k).length ≤ 32 by rw [List.length_drop]; omega)
  have h4 : (2 : Nat) ^ 32 = 4294967296 := by decide
  omega
theorem bit_at (bs : List Nat) (i q : Nat) (hq : q < 32) : ((bs.drop i).take 32).getD q 0 = bs.getD (i + q) 0 := by
  rw [List.getD_eq_getElem?_getD, List.getD_eq_getElem?_getD, List.getElem?_take_of_lt hq, List.getElem?_drop]
/-- out: the variable at block G with j limbs so far -/
def IntRel (W0 : World) (G : Nat) (s : Bool) (bs : List Nat) (j : Nat) (wr : World) : Prop :=
  ∃ A c, Bx wr G (.bool s) (.slice A j c) ∧ OwnU wr W0.heap.size A j c (u32s (lims bs j)) ∧ Below G W0 wr
theorem IntRel.fill {W0 wr w3 : World} {G j c3 : Nat} {s : Bool} {bs : List Nat} {A3 : Option Addr} {v0 : Value} (hG : G < W0.heap.size) (hx : Bx wr G (.bool s) v0) (hb : Below G W0 wr) (hb3 : Below W0.heap.size wr w3) (ho : OwnU w3 W0.heap.size A3 (j + 1) c3 (u32s (lims bs j ++ [lim bs j]))) :
    IntRel W0 G s bs (j + 1) (w3.setCell ⟨G, 1, none⟩ (.slice A3 (j + 1) c3)) :=
  ⟨A3, c3, (hx.below hb3 hG).set1 _, Own.farB ho hG _, (hb.trans (hb3.mono (by omega))).setCell (Nat.le_refl _) _⟩
set_option maxRecDepth 100000 in
set_option maxHeartbeats 2000000 in
theorem Int_raw (s : Bool) {B : Nat} {A : Option Addr} {bs : List Nat} {n c : Nat} {w : World} (hs : SlI w B A n c bs) (rb : Nrm bs) (hn : n ≤ 2147483648) (hB : B ≤ w.heap.size) {z : Int} (hz : z.natAbs = nv 2 bs) (hsz : s = decide (z < 0)) :
    Calls Try.prog 35 #[.agg #[.bool s, .slice A n c]] w (PostI w z) := by
  have hlen := hs.len
  have hd := hs.dig
  have B1 := ((Below.refl w.heap.size w).alloc (Nat.le_refl _) (.cells #[.bool s, .slice A n c] 28)).alloc (by simp) (.cells #[.bool false, .slice none 0 0] 24)
  have HB := Lib.hid (B1.alloc (by simp; omega) (.cells #[.bool s, .slice none 0 0] 24))
  have hh0 : (((w.alloc (.cells #[.bool s, .slice A n c] 28)).alloc (.cells #[.bool false, .slice none 0 0] 24)).alloc (.cells #[.bool s, .slice none 0 0] 24)).heap[w.heap.size]? = some (.cells #[.bool s, .slice A n c] 28 (0, 0)) := by
    rw [heap_alloc_old _ _ (by simp; omega)]; exact heap_first2 w _ _
  have hh1 : (((w.alloc (.cells #[.bool s, .slice A n c] 28)).alloc (.cells #[.bool false, .slice none 0 0] 24)).alloc (.cells #[.bool s, .slice none 0 0] 24)).heap[w.heap.size + 1]? = some (.cells #[.bool false, .slice none 0 0] 24 (0, 0)) := by
    rw [heap_alloc_old _ _ (by simp)]; exact heap_second w _ _
  have hh2 : Bx (((w.alloc (.cells #[.bool s, .slice A n c] 28)).alloc (.cells #[.bool false, .slice none 0 0] 24)).alloc (.cells #[.bool s, .slice none 0 0] 24)) (w.heap.size + 1 + 1) (.bool s) (.slice none 0 0) := heap_third w _ _ _
  have HH0 := Lib.hid hh0
  have HH1 := Lib.hid hh1
  have HH2 := Lib.hid hh2
  have hz0 : w.heap.size + 1 + 1 < (((w.alloc (.cells #[.bool s, .slice A n c] 28)).alloc (.cells #[.bool false, .slice none 0 0] 24)).alloc (.cells #[.bool s, .slice none 0 0] 24)).heap.size := by simp
  have HS := Lib.hid (fun w1 (hb : Below w.heap.size w w1) => hs.below (C := w.heap.size) hb hB)
  have HD := Lib.hid (And.intro hd (And.intro rb hlen))
  have HZ := Lib.hid (And.intro hz hsz)
  have HLS := Lib.hid (fun j k (hk : k < 32) => limb_step (T := (bs.drop (32 * j)).take 32) ((hd.drop _).take _) (List.length_take_le _ _) hk)
  have hnI : (n : Int) ≤ 2147483648 := by omega
  clear hs rb hB hlen hd hz hsz B1 hh0 hh1 hh2
  go_enter Try.func35, Try.ntmps35
  go_upto_region 2 with fail
  generalize (((w.alloc (.cells #[.bool s, .slice A n c] 28)).alloc (.cells #[.bool false, .slice none 0 0] 24)).alloc (.cells #[.bool s, .slice none 0 0] 24)) = W0 at *
  have HR0 := Lib.hid (show IntRel W0 (w.heap.size + 1 + 1) s bs 0 W0 from ⟨none, 0, HH2.out, ⟨rfl, .inl ⟨rfl, rfl⟩⟩, Below.refl _ _⟩)
  go_wp2_with fail
  go_loopw [4] (fun iv wr => ∃ j : Nat, 32 * j < n + 32 ∧ iv = .int .i64 ((32 * j : Nat) : Int) ∧ IntRel W0 (w.heap.size + 1 + 1) s bs j wr) (fun iv _ => n + 32 - (intOf iv).toNat)
  case atStart => exact ⟨0, by omega, rfl, HR0.out⟩
  case round =>
    obtain ⟨j, hj, rfl, A2, c2, hx2, ho2, hb2⟩ := hrel
    have HX2 := Lib.hid hx2
    have HO2 := Lib.hid ho2
    have HB2 := Lib.hid hb2
    have hz2 := hb2.size
    obtain ⟨i, hi⟩ : ∃ i, 32 * j = i := ⟨_, rfl⟩
    rw [hi] at hj ⊢
    have HI := Lib.hid hi
    obtain ⟨a0, a1, _, _⟩ := two_cells hb2 HH0.out (by omega)
    have hi0 : (0 : Int) ≤ (i : Int) := by omega
    clear hx2 ho2 hb2 hi HR0
    by_cases hin : i < n
    · have hiI : (i : Int) < (n : Int) := by omega
      have hcell := SlI.at_ (HS.out wr (HB.out.trans (HB2.out.mono (by omega)))) (by omega)
      obtain ⟨b, off, hAe, hbb, hc⟩ := hcell
      subst hAe
      have HC := Lib.hid hc
      clear hc
      obtain ⟨T, hT⟩ : ∃ T, (bs.drop i).take 32 = T := ⟨_, rfl⟩
      have HT := Lib.hid (show ∀ q, q < 32 → nv 2 (T.drop q) = 2 * nv 2 (T.drop (q + 1)) + bs.getD (i + q) 0 ∧ nv 2 (T.drop q) < 4294967296 ∧ 2 * nv 2 (T.drop (q + 1)) < 4294967296 from fun q hq => by
        have h := HLS.out j q hq
        rw [HI.out, hT] at h
        rw [← bit_at bs i q hq, hT]; exact h)
      have HL0 := Lib.hid (show nv 2 (T.drop 0) = lim bs j by rw [List.drop_zero, ← hT, ← HI.out]; rfl)
      have HTN := Lib.hid (show nv 2 (T.drop 32) = 0 by rw [List.drop_eq_nil_of_le (by rw [← hT]; exact List.length_take_le _ _)]; rfl)
      have HBd := Lib.hid (fun k => HD.out.1.getD (b := 2) (by decide) k)
      have HPs := Lib.hid (fun k (hk : n ≤ k) => show bs.getD k 0 = 0 from getD_past (by rw [HD.out.2.2]; exact hk))
      clear hT
      go_wp2_with fail
      go_loop [5, 6] (fun lv kv => ∃ k X : Nat, k ≤ 32 ∧ kv = .int .i64 ((k : Int) - 1) ∧ lv = .int .u32 (X : Int) ∧ Hid (nv 2 (T.drop k) = X)) (fun _ kv => (intOf kv + 1).toNat)
      case atStart => exact ⟨32, 0, Nat.le_refl _, rfl, rfl, Lib.hid HTN.out⟩
      case round =>
        obtain ⟨k, X, hk, rfl, rfl, hX⟩ := hrel
        by_cases h0 : k = 0
        · subst h0
          obtain rfl : X = lim bs j := by rw [← hX.out]; exact HL0.out
          have HLb := Lib.hid (lim_lt HD.out.1 j)
          obtain ⟨g0, g1, g2, g3⟩ := HX2.out.facts
          have hj9 : j ≤ 67108864 := by have := HI.out; omega
          have hc32 : w.heap.size + 1 + 1 < W0.heap.size := hz0
          generalize hX9 : lim bs j = X at *
          have HX9 := Lib.hid hX9
          clear hX hX9 HT HL0 HTN HBd HPs HC hk
          go_wp2_with (at_builtin; refine wpList_append_u32 (by rfl) _ _ (by rfl) W0.heap.size A2 j c2 (lims bs j) (by rfl) (Own.alloc HO2.out _) wr.heap.size X (by rfl) (by simp [go_sem]) hj9 (by simp; omega) ?_; intro A3 c3 w3 ho3 hb3; obtain ⟨g5, g6, g7, g8⟩ := (HX2.out.below (((Below.refl wr.heap.size wr).alloc (Nat.le_refl _) (.cells #[.int .u32 (X : Int)] 48)).mono hz2 |>.trans hb3) hc32).facts)
          have HR3 := Lib.hid (IntRel.fill hc32 HX2.out HB2.out (((Below.refl wr.heap.size wr).alloc (Nat.le_refl _) _).mono hz2 |>.trans hb3) (by rw [HX9.out]; exact ho3))
          clear ho3 hb3
          go_roundw
          case rel => exact ⟨j + 1, by have := HI.out; omega, by first | rfl | (rw [← HI.out]; go_num), HR3.out⟩
          case measure => simp [intOf]; omega
        · obtain ⟨q, rfl⟩ : ∃ q, k = q + 1 := ⟨k - 1, by omega⟩
          have hst := HT.out q (by omega)
          rw [hX.out] at hst
          have hq0 : (0 : Int) ≤ (q : Int) := by omega
          have hyb := HBd.out (i + q)
          obtain ⟨h1, h2, h3⟩ := hst
          by_cases hlt : i + q < n
          · have hc := HC.out (i + q) hlt
            have e1 : (i : Int) + (q : Int) < (n : Int) := by omega
            generalize bs.getD (i + q) 0 = y at *
            obtain ⟨Z, hZ⟩ : ∃ Z, nv 2 (T.drop q) = Z := ⟨_, rfl⟩
            have HZq := Lib.hid hZ
            have hZI : (X : Int) * 2 + (y : Int) = (Z : Int) := by omega
            have hX2 : (X : Int) * 2 ≤ 4294967295 := by omega
            have hX0 : (0 : Int) ≤ (X : Int) * 2 := by omega
            have hy0 : (0 : Int) ≤ (y : Int) := by omega
            have hy1 : (y : Int) ≤ 1 := by omega
            have hZ9 : (Z : Int) ≤ 4294967295 := by omega
            clear h1 h2 h3 hZ hX HT HL0 HTN HBd HPs HC hyb h0
            go_wp2_with fail
            go_round
            case rel => exact ⟨q, Z, by omega, by go_num, rfl, HZq⟩
            case measure => simp [intOf]
          · have hy := HPs.out (i + q) (by omega)
            have e1 : ¬ (i : Int) + (q : Int) < (n : Int) := by omega
            rw [hy] at h1
            have HZq := Lib.hid (show nv 2 (T.drop q) = X * 2 by omega)
            have hX2 : (X : Int) * 2 ≤ 4294967295 := by omega
            clear h1 h2 h3 hX HT HL0 HTN HBd HPs HC hyb h0 hy
            go_wp2_with fail
            go_round
            case rel => exact ⟨q, X * 2, by omega, by go_num, by first | rfl | go_num, HZq⟩
            case measure => simp [intOf]
    · have HLm := Lib.hid (show lims bs j = digs W z.natAbs by rw [HZ.out.1]; exact lims_digs HD.out.1 HD.out.2.1 (by rw [HD.out.2.2, HI.out]; omega) (by rw [HD.out.2.2, HI.out]; exact hj))
      have hjl : j = (digs W z.natAbs).length := by rw [← HLm.out, lims_length]
      have HOz := Lib.hid (show OwnU wr W0.heap.size A2 (digs W z.natAbs).length c2 (u32s (digs W z.natAbs)) by have := HO2.out; rw [HLm.out] at this; rwa [hjl] at this)
      have HBw := Lib.hid (HB.out.trans (HB2.out.mono (by omega)))
      obtain ⟨g0, g1, _, _⟩ := HX2.out.facts
      obtain ⟨r0, r1, r2, r3⟩ := two_cells HB2.out HH1.out (by omega)
      have HJ := Lib.hid hjl
      have hle : w.heap.size + 1 < W0.heap.size := by omega
      have HSG := Lib.hid (show (Value.agg #[.bool s, .slice A2 j c2]) = .agg #[.bool (decide (z < 0)), .slice A2 (digs W z.natAbs).length c2] by rw [HZ.out.2, ← hjl])
      clear hjl HLS HO2
      go_wp2
      have hr := ResI.stored (w := w) (g := w.heap.size + 1) (u := .bool s) (u' := .slice A2 j c2) ⟨A2, c2, rfl, HOz.out⟩ HBw.out hle (by omega)
      exact bodyPost_ret (v := .agg #[.bool s, .slice A2 j c2]) (by simp [results, Try.results35, go_sem, r0, r1]) rfl ⟨_, rfl, by rw [HSG.out]; exact hr.1, hr.2⟩
end Go.Proofs.Ytggdmhkdmkldoaa

namespace Go.Proofs.Ytggdmhkdmkldoaa
open Go.RowKit Hb

/-! ### Times: shifted and added, bit by bit -/
/-- at the head of the outer loop: the sums at block G -/
def TmRel (w0 : World) (G : Nat) (l m : List Nat) (N M i : Nat) (wr : World) : Prop :=
  ∃ o : List Nat, o.length = N + M + 1 ∧ (∀ j, o.getD j 0 ≤ i * M) ∧ nv 2 o = nvp 2 l i * nv 2 m ∧ OwnI wr G (some ⟨G, 0, none⟩) (N + M + 1) (N + M + 1) (i64s o) ∧ Below G w0 wr
def TmIn (w0 : World) (G : Nat) (l m : List Nat) (N M i k : Nat) (wr : World) : Prop :=
  ∃ o : List Nat, o.length = N + M + 1 ∧ (∀ j, o.getD j 0 ≤ i * M + k) ∧ nv 2 o = nvp 2 l i * nv 2 m + 2 ^ i * nvp 2 m k ∧ OwnI wr G (some ⟨G, 0, none⟩) (N + M + 1) (N + M + 1) (i64s o) ∧ Below G w0 wr
theorem own_zerosI (w : World) {B : Nat} (n : Nat) (hB : B ≤ w.heap.size) (hm : n ≤ maxLen) : OwnI (w.alloc (.cells (madeCells #[.int .i64 0] n) 3)) B (some ⟨w.heap.size, 0, none⟩) n n (i64s (List.replicate n 0)) := by
  have := Own.made w (.int .i64 0) n 3 hB hm
  rwa [i64s_zeros] at this
theorem getD_zeros (n j : Nat) : (List.replicate n 0).getD j 0 = 0 := by
  rw [List.getD_eq_getElem?_getD, List.getElem?_replicate]; split <;> rfl
theorem TmRel.start (w : World) (l m : List Nat) (N M : Nat) (hn : N + M + 1 ≤ maxLen) : TmRel w w.heap.size l m N M 0 (w.alloc (.cells (madeCells #[.int .i64 0] (N + M + 1)) 3)) :=
  ⟨List.replicate (N + M + 1) 0, by simp, fun j => by rw [getD_zeros]; exact Nat.zero_le _, by rw [nv_replicate, nvp_zero, Nat.zero_mul], own_zerosI w _ (Nat.le_refl _) hn, (Below.refl _ _).alloc (Nat.le_refl _) _⟩
theorem TmRel.enter {w wr : World} {G : Nat} {l m : List Nat} {N M i : Nat} (h : TmRel w G l m N M i wr) : TmIn w G l m N M i 0 wr := by
  obtain ⟨o, h1, h2, h3, h4, h5⟩ := h
  exact ⟨o, h1, fun j => by have := h2 j; omega, by rw [nvp_zero]; simpa using h3, h4, h5⟩
theorem TmRel.skip {w wr : World} {G : Nat} {l m : List Nat} {N M i : Nat} (h : TmRel w G l m N M i wr) (hx : l.getD i 0 = 0) : TmRel w G l m N M (i + 1) wr := by
  obtain ⟨o, h1, h2, h3, h4, h5⟩ := h
  exact ⟨o, h1, fun j => Nat.le_trans (h2 j) (Nat.mul_le_mul_right _ (by omega)), by rw [nvp_succ, hx, Nat.mul_zero, Nat.add_zero]; exact h3, h4, h5⟩
theorem TmIn.leave {w wr : World} {G : Nat} {l m : List Nat} {N M i : Nat} (h : TmIn w G l m N M i M wr) (hx : l.getD i 0 = 1) (hm : m.length ≤ M) : TmRel w G l m N M (i + 1) wr := by
  obtain ⟨o, h1, h2, h3, h4, h5⟩ := h
  refine ⟨o, h1, fun j => by rw [Nat.add_mul, Nat.one_mul]; exact h2 j, ?_, h4, h5⟩
  rw [nvp_succ, hx, Nat.mul_one, Nat.add_mul, h3, nvp_all hm]
theorem TmRel.below {w wr : World} {G : Nat} {l m : List Nat} {N M i : Nat} (h : TmRel w G l m N M i wr) : Below G w wr := by
  obtain ⟨o, h1, h2, h3, h4, h5⟩ := h
  exact h5
theorem TmIn.below {w wr : World} {G : Nat} {l m : List Nat} {N M i k : Nat} (h : TmIn w G l m N M i k wr) : Below G w wr := by
  obtain ⟨o, h1, h2, h3, h4, h5⟩ := h
  exact h5
theorem TmIn.drew {w wr : World} {G : Nat} {l m : List Nat} {N M i k : Nat} (h : TmIn w G l m N M i k wr) : TmIn w G l m N M i k wr.drew := by
  obtain ⟨o, h1, h2, h3, h4, h5⟩ := h
  exact ⟨o, h1, h2, h3, h4, h5.drew⟩
theorem small_mul {i k N M : Nat} (hi : i ≤ N) (hk : k ≤ M) (hN : N ≤ 1073741824) (hM : M ≤ 1073741824) : i * M + k ≤ 1152921505680588800 := by
  have := Nat.mul_le_mul (Nat.le_trans hi hN) hM
  omega
theorem TmIn.facts {w wr : World} {G : Nat} {l m : List Nat} {N M i k : Nat} (h : TmIn w G l m N M i k wr) (hi : i < N) (hk : k < M) (hN : N ≤ 1073741824) (hM : M ≤ 1073741824) :
    ∃ d : Nat, d ≤ 1152921505680588800 ∧ wr.cell? ⟨G, i + k, none⟩ = some (.int .i64 (d : Int)) ∧ wr.frozen? ⟨G, i + k, none⟩ = false ∧
      ∀ y, m.getD k 0 = y → y < 2 → TmIn w G l m N M i (k + 1) (wr.setCell ⟨G, i + k, none⟩ (.int .i64 ((d + y : Nat) : Int))) := by
  obtain ⟨o, h1, h2, h3, h4, h5⟩ := h
  refine ⟨o.getD (i + k) 0, Nat.le_trans (h2 _) (small_mul (Nat.le_of_lt hi) (Nat.le_of_lt hk) hN hM), by rw [h4.cell (by omega), i64s_get (by omega)], h4.frozen _, fun y hy hy2 => ?_⟩
  refine ⟨o.set (i + k) (o.getD (i + k) 0 + y), by simpa using h1, fun j => ?_, ?_, ?_, h5.setCell (Nat.le_refl _) _⟩
  · by_cases hj : i + k = j
    · subst hj
      have := h2 (i + k)
      rw [List.getD_eq_getElem?_getD, List.getElem?_set_self (by omega)]
      show o.getD (i + k) 0 + y ≤ _
      omega
    · rw [lget_set_ne hj]; have := h2 j; omega
  · have h6 := nv_set 2 (l := o) (p := i + k) (by omega) (o.getD (i + k) 0 + y)
    rw [Nat.mul_add] at h6
    have h7 : nv 2 (o.set (i + k) (o.getD (i + k) 0 + y)) = nv 2 o + 2 ^ (i + k) * y := by omega
    rw [h7, h3, nvp_succ, hy, Nat.mul_add, Nat.pow_add, Nat.mul_assoc, Nat.add_assoc]
  · have := h4.set_ (i + k) (.int .i64 ((o.getD (i + k) 0 + y : Nat) : Int))
    rwa [i64s_set] at this
/-- the carries: the first i bits are laid -/
def CyRel (w0 : World) (G V N' i : Nat) (cv : Value) (wr : World) : Prop :=
  ∃ (o : List Nat) (c : Nat), cv = .int .i64 (c : Int) ∧ c ≤ 1152921505680588800 ∧ o.length = N' ∧ (∀ j, j < i → o.getD j 0 < 2) ∧ (∀ j, o.getD j 0 ≤ 1152921505680588800) ∧ nv 2 o + 2 ^ i * c = V ∧ OwnI wr G (some ⟨G, 0, none⟩) N' N' (i64s o) ∧ Below G w0 wr
theorem TmRel.carry {w wr : World} {G : Nat} {l m : List Nat} {N M : Nat} (h : TmRel w G l m N M N wr) (hl : l.length ≤ N) (hN : N ≤ 1073741824) (hM : M ≤ 1073741824) : CyRel w G (nv 2 l * nv 2 m) (N + M + 1) 0 (.int .i64 0) wr := by
  obtain ⟨o, h1, h2, h3, h4, h5⟩ := h
  refine ⟨o, 0, rfl, by omega, h1, fun j hj => absurd hj (by omega), fun j => Nat.le_trans (h2 j) (Nat.le_trans (Nat.le_add_right _ 0) (small_mul (Nat.le_refl _) (Nat.zero_le _) hN hM)), ?_, h4, h5⟩
  rw [h3, nvp_all hl]; simp
theorem CyRel.facts {w wr : World} {G V N' i : Nat} {cv : Value} (h : CyRel w G V N' i cv wr) (hi : i < N') :
    ∃ c d : Nat, cv = .int .i64 (c : Int) ∧ c ≤ 1152921505680588800 ∧ d ≤ 1152921505680588800 ∧ wr.cell? ⟨G, i, none⟩ = some (.int .i64 (d : Int)) ∧ wr.frozen? ⟨G, i, none⟩ = false ∧
      CyRel w G V N' (i + 1) (.int .i64 (((d + c) / 2 : Nat) : Int)) (wr.setCell ⟨G, i, none⟩ (.int .i64 (((d + c) % 2 : Nat) : Int))) := by
  obtain ⟨o, c, rfl, hc, h1, h2, h2', h3, h4, h5⟩ := h
  refine ⟨c, o.getD i 0, rfl, hc, h2' i, by rw [h4.cell (by omega), i64s_get (by omega)], h4.frozen _, ?_⟩
  have hd := h2' i
  refine ⟨o.set i ((o.getD i 0 + c) % 2), _, rfl, by omega, by simpa using h1, fun j hj => ?_, fun j => ?_, ?_, ?_, h5.setCell (Nat.le_refl _) _⟩
  · by_cases hj2 : i = j
    · subst hj2
      rw [List.getD_eq_getElem?_getD, List.getElem?_set_self (by omega)]
      exact Nat.mod_lt _ (by decide)
    · rw [lget_set_ne hj2]; exact h2 j (by omega)
  · by_cases hj2 : i = j
    · subst hj2
      rw [List.getD_eq_getElem?_getD, List.getElem?_set_self (by omega)]
      show (o.getD i 0 + c) % 2 ≤ _
      omega
    · rw [lget_set_ne hj2]; exact h2' j
  · have h6 := nv_set 2 (l := o) (p := i) (by omega) ((o.getD i 0 + c) % 2)
    generalize o.getD i 0 = d at *
    have h7 : 2 ^ i * d + 2 ^ i * c = 2 ^ i * ((d + c) % 2) + 2 ^ (i + 1) * ((d + c) / 2) := by
      rw [pow_succ_mul, ← Nat.mul_add, ← Nat.mul_add]
      congr 1
      omega
    omega
  · have := h4.set_ i (.int .i64 (((o.getD i 0 + c) % 2 : Nat) : Int))
    rwa [i64s_set] at this
theorem CyRel.end_ {w wr : World} {G V N' : Nat} {cv : Value} (h : CyRel w G V N' N' cv wr) (hV : V < 2 ^ N') :
    ∃ o : List Nat, o.length = N' ∧ Dig 2 o ∧ nv 2 o = V ∧ OwnI wr G (some ⟨G, 0, none⟩) N' N' (i64s o) ∧ Below G w wr := by
  obtain ⟨o, c, rfl, hc, h1, h2, h2', h3, h4, h5⟩ := h
  have hc0 : c = 0 := by
    refine Nat.eq_zero_of_not_pos fun h => ?_
    have := Nat.mul_le_mul_left (2 ^ N') h
    omega
  subst hc0
  refine ⟨o, h1, fun x hx => ?_, by simpa using h3, h4, h5⟩
  obtain ⟨j, hj, rfl⟩ := List.mem_iff_getElem.1 hx
  have := h2 j (by omega)
  rwa [getD_eq hj] at this
theorem CyRel.below {w wr : World} {G V N' i : Nat} {cv : Value} (h : CyRel w G V N' i cv wr) : Below G w wr := by
  obtain ⟨o, c, h0, hc, h1, h2, h2', h3, h4, h5⟩ := h
  exact h5
theorem bval_mul (sx sy : Bool) (l m : List Nat) {x y z : Int} (hx : bval sx l = x) (hy : bval sy m = y) (hz : x * y = z) {o : List Nat} (ho : nv 2 o = nv 2 l * nv 2 m) : bval (!sx == sy) o = z := by
  subst hx; subst hy; subst hz
  unfold bval
  rw [ho]
  cases sx <;> cases sy <;> simp [Int.neg_mul, Int.mul_neg]
set_option maxRecDepth 100000 in
set_option maxHeartbeats 2000000 in
theorem Times_any {sx sy : Bool} {B B' : Nat} {A A' : Option Addr} {l m : List Nat} {n c n' c' : Nat} {w : World} (hs : SlI w B A n c l) (ht : SlI w B' A' n' c' m) (hn : n ≤ 67108864) (hn' : n' ≤ 67108864) (hB : B ≤ w.heap.size) (hB' : B' ≤ w.heap.size)
    {x y z : Int} (hx : bval sx l = x) (hy : bval sy m = y) (hz : x * y = z) :
    Calls Try.prog 52 #[.agg #[.bool sx, .slice A n c], .agg #[.bool sy, .slice A' n' c']] w (PostB w z) := by
  have hl1 := hs.len
  have hl2 := ht.len
  have B1 := (((Below.refl w.heap.size w).alloc (Nat.le_refl _) (.cells #[.bool sx, .slice A n c] 28)).alloc (by simp) (.cells #[.bool sy, .slice A' n' c'] 28)).alloc (by simp; omega) (.cells #[.bool false, .slice none 0 0] 28)
  have HB := Lib.hid B1
  have HH2 := Lib.hid (heap_third w (.cells #[.bool sx, .slice A n c] 28) (.cells #[.bool sy, .slice A' n' c'] 28) (.cells #[.bool false, .slice none 0 0] 28))
  have HK := Lib.hid (fun C w2 (hb : Below C (((w.alloc (.cells #[.bool sx, .slice A n c] 28)).alloc (.cells #[.bool sy, .slice A' n' c'] 28)).alloc (.cells #[.bool false, .slice none 0 0] 28)) w2) (hC : w.heap.size + 3 ≤ C) => three_boxes (Dr.refl _) hb hC)
  have hsz : w.heap.size + 3 ≤ (((w.alloc (.cells #[.bool sx, .slice A n c] 28)).alloc (.cells #[.bool sy, .slice A' n' c'] 28)).alloc (.cells #[.bool false, .slice none 0 0] 28)).heap.size := by simp
  have HS1 := Lib.hid (fun w1 (hb : Below w.heap.size w w1) => And.intro (hs.below (C := w.heap.size) hb hB) (ht.below (C := w.heap.size) hb hB'))
  have HD := Lib.hid (And.intro hs.dig ht.dig)
  have HL := Lib.hid (And.intro hl1 hl2)
  have HV := Lib.hid (show nv 2 l * nv 2 m < 2 ^ (n + n' + 1) from by
    have h1 := nv_lt hs.dig
    have h2 := nv_lt ht.dig
    rw [hl1] at h1
    rw [hl2] at h2
    have h3 := Nat.mul_le_mul (Nat.le_of_lt h1) (Nat.le_of_lt h2)
    rw [← Nat.pow_add] at h3
    have h4 : 2 ^ (n + n') < 2 ^ (n + n' + 1) := Nat.pow_lt_pow_right (by decide) (Nat.lt_succ_self _)
    omega)
  have HZ := Lib.hid (fun o (ho : nv 2 o = nv 2 l * nv 2 m) => bval_mul sx sy l m hx hy hz ho)
  have hmk := fun w => by
    have h := makeI (n + n' + 1) (by omega) w
    rw [show ((n + n' + 1 : Nat) : Int) = (n : Int) + n' + 1 from by omega] at h
    exact h
  have hn9 : (n : Int) ≤ 67108864 := by omega
  have hn8 : (n' : Int) ≤ 67108864 := by omega
  clear hs ht hB hB' hx hy hz hl1 hl2 B1
  go_enter Try.func52, Try.ntmps52
  go_upto_region 1 with fail
  generalize (((w.alloc (.cells #[.bool sx, .slice A n c] 28)).alloc (.cells #[.bool sy, .slice A' n' c'] 28)).alloc (.cells #[.bool false, .slice none 0 0] 28)) = W0 at *
  obtain ⟨⟨q0, q1⟩, ⟨q2, q3⟩, _⟩ := HK.out _ _ (Below.refl _ W0) hsz
  have HR0 := Lib.hid (TmRel.start W0 l m n n' (by simp [maxLen]; omega))
  obtain ⟨G, hG⟩ : ∃ G, W0.heap.size = G := ⟨_, rfl⟩
  rw [hG] at HR0 hsz
  go_wp2_with fail
  try rw [hG]
  go_loopw [6] (fun iv wr => ∃ i : Nat, i ≤ n ∧ iv = .int .i64 (i : Int) ∧ TmRel W0 G l m n n' i wr) (fun iv _ => n - (intOf iv).toNat)
  case atStart => exact ⟨0, Nat.zero_le _, rfl, HR0.out⟩
  case round =>
    obtain ⟨i, hi, rfl, hrel⟩ := hrel
    have HRel := Lib.hid hrel
    have HBr := Lib.hid hrel.below
    have hi0 : (0 : Int) ≤ (i : Int) := by omega
    obtain ⟨⟨q0, q1⟩, ⟨q2, q3⟩, _⟩ := HK.out _ _ HBr.out hsz
    have HBw := Lib.hid (HB.out.trans (HBr.out.mono (by omega)))
    clear hrel HR0
    by_cases hin : i < n
    · have hiI : (i : Int) < (n : Int) := by omega
      obtain ⟨b, off, rfl, _, hc⟩ := SlI.at_ (HS1.out wr HBw.out).1 (by omega)
      have hx := hc i hin
      have hb2 := HD.out.1.getD (b := 2) (by decide) i
      clear hc
      by_cases h1 : l.getD i 0 = 1
      · have H1 := Lib.hid h1
        rw [h1] at hx
        have hx1 : wr.cell? ⟨b, off + i, none⟩ = some (.int .i64 1) := hx
        have HI := Lib.hid HRel.out.enter
        clear hx hb2 h1
        go_wp2_with fail
        go_loopw [7] (fun kv wr2 => ∃ k : Nat, k ≤ n' ∧ kv = .int .i64 (k : Int) ∧ TmIn W0 G l m n n' i k wr2) (fun kv _ => n' - (intOf kv).toNat)
        case atStart => exact ⟨0, Nat.zero_le _, rfl, HI.out⟩
        case round =>
          obtain ⟨k, hk, rfl, hrel⟩ := hrel
          have HRk := Lib.hid hrel
          have HBk := Lib.hid hrel.below
          have hk0 : (0 : Int) ≤ (k : Int) := by omega
          obtain ⟨⟨p0, p1⟩, ⟨p2, p3⟩, _⟩ := HK.out _ _ HBk.out hsz
          have HBv := Lib.hid (HB.out.trans (HBk.out.mono (by omega)))
          clear hrel HI
          by_cases hkn : k < n'
          · have hkI : (k : Int) < (n' : Int) := by omega
            obtain ⟨b2, off2, rfl, _, hc⟩ := SlI.at_ (HS1.out _ HBv.out).2 (by omega)
            have hy := hc k hkn
            have hyb := HD.out.2.getD (b := 2) (by decide) k
            obtain ⟨d, hd, hcd, hfz, hstep⟩ := HRk.out.facts hin hkn (by omega) (by omega)
            have HS := Lib.hid (hstep _ rfl hyb)
            obtain ⟨ik, hik⟩ : ∃ ik, i + k = ik := ⟨_, rfl⟩
            rw [hik] at HS hcd hfz
            generalize m.getD k 0 = y at *
            obtain ⟨dy, hdy⟩ : ∃ dy, d + y = dy := ⟨_, rfl⟩
            rw [hdy] at HS
            have hw1 : IntKind.i64.wrap ((i : Int) + (k : Int)) = (ik : Int) := by rw [IntWalk.i64_in _ (by omega)]; omega
            have hw2 : IntKind.i64.wrap ((d : Int) + (y : Int)) = (dy : Int) := by rw [IntWalk.i64_in _ (by omega)]; omega
            have hik3 : (ik : Int) < (n : Int) + (n' : Int) + 1 := by omega
            have hik4 : ik < n + n' + 1 := by omega
            have hik0 : (0 : Int) ≤ (ik : Int) := by omega
            clear hc hstep HRk hik hdy
            go_wp2_with fail
            go_still_tail 17, (by kernel_rfl)
            change wpList _ _ _ _ _ wr.drew
            go_wp2_with fail
            go_roundw
            case rel => exact ⟨k + 1, by omega, by go_num, HS.out.drew⟩
            case measure => simp [intOf]; omega
          · obtain rfl : k = n' := by omega
            have HS := Lib.hid (HRk.out.leave H1.out (by rw [HL.out.2]; exact Nat.le_refl _))
            clear HRk
            go_wp2_with fail
            go_roundw
            case rel => exact ⟨i + 1, by omega, by go_num, HS.out⟩
            case measure => simp [intOf]; omega
      · have h0 : l.getD i 0 = 0 := by omega
        rw [h0] at hx
        have hx1 : wr.cell? ⟨b, off + i, none⟩ = some (.int .i64 0) := hx
        have HS := Lib.hid (HRel.out.skip h0)
        clear hx h1 h0 hb2
        go_wp2_with fail
        go_roundw
        case rel => exact ⟨i + 1, by omega, by go_num, HS.out⟩
        case measure => simp [intOf]; omega
    · obtain rfl : i = n := by omega
      have HC := Lib.hid (HRel.out.carry (by rw [HL.out.1]; exact Nat.le_refl _) (by omega) (by omega))
      clear HRel
      go_wp2_with fail
      go_loopw [8, 9] (fun cv jv wr2 => ∃ j : Nat, j ≤ i + n' + 1 ∧ jv = .int .i64 (j : Int) ∧ CyRel W0 G (nv 2 l * nv 2 m) (i + n' + 1) j cv wr2) (fun _ jv _ => i + n' + 1 - (intOf jv).toNat)
      case atStart => exact ⟨0, Nat.zero_le _, rfl, HC.out⟩
      case round =>
        obtain ⟨j, hj, rfl, hrel⟩ := hrel
        have HRj := Lib.hid hrel
        have HBj := Lib.hid hrel.below
        have hj0 : (0 : Int) ≤ (j : Int) := by omega
        clear hrel HC
        by_cases hjn : j < i + n' + 1
        · have hjI : (j : Int) < (i : Int) + (n' : Int) + 1 := by omega
          obtain ⟨cy, d, rfl, hcy, hd, hcd, hfz, hstep⟩ := HRj.out.facts hjn
          have HS := Lib.hid hstep
          obtain ⟨t, ht⟩ : ∃ t, d + cy = t := ⟨_, rfl⟩
          have hdt : (d : Int) + (cy : Int) = (t : Int) := by omega
          rw [ht] at HS
          have htm : (t : Int).tmod 2 = ((t % 2 : Nat) : Int) := by rw [Int.tmod_eq_emod_of_nonneg (by omega)]; omega
          have htd : (t : Int).tdiv 2 = ((t / 2 : Nat) : Int) := by rw [Int.tdiv_eq_ediv_of_nonneg (by omega)]; omega
          have hb1 : (t : Int) ≤ 2305843011361177600 := by omega
          clear hstep HRj ht
          go_wp2_with fail
          go_roundw
          case rel => exact ⟨j + 1, by omega, by go_num, by first | exact HS.out | simpa using HS.out⟩
          case measure => simp [intOf]; omega
        · obtain rfl : j = i + n' + 1 := by omega
          obtain ⟨o, ho1, ho2, ho3, ho4, ho5⟩ := HRj.out.end_ HV.out
          have HO := Lib.hid (And.intro ho1 (And.intro ho2 (And.intro (HZ.out o ho3) ho4)))
          obtain ⟨⟨p0, p1⟩, ⟨p2, p3⟩, _⟩ := HK.out _ _ HBj.out hsz
          have HBv := Lib.hid (HB.out.trans (HBj.out.mono (by omega)))
          have hjI : ¬ ((i + n' + 1 : Nat) : Int) < (i : Int) + (n' : Int) + 1 := by omega
          clear ho1 ho2 ho3 ho4 ho5 HRj HV HZ
          go_wp2_with fail
          (with_reducible refine (rlaid_at (!sx == sy) HO.out.2.2.2 HO.out.1 HO.out.2.1 HO.out.2.2.1).mono ?_)
          rintro ex w5 ⟨rfl, ho5, hb5⟩
          have hbz := HBj.out.size
          obtain ⟨r0, r1, r2, r3⟩ := (HK.out _ _ (HBj.out.trans (hb5.mono (by omega))) hsz).2.2
          have HO5 := Lib.hid ho5
          have HB5 := Lib.hid (HBv.out.trans (hb5.mono (by have := HBv.out.size; omega)))
          clear ho5 hb5 p0 p1 p2 p3
          go_wp2
          have hr := ResB.stored (w := w) (g := w.heap.size + 1 + 1) (u := .bool (decide (z < 0))) (u' := .slice (some ⟨G, 0, none⟩) (digs 2 z.natAbs).length (i + n' + 1)) ⟨_, _, rfl, HO5.out⟩ HB5.out (by omega) (by omega)
          exact bodyPost_ret (v := .agg #[.bool (decide (z < 0)), .slice (some ⟨G, 0, none⟩) (digs 2 z.natAbs).length (i + n' + 1)]) (by simp [results, Try.results52, go_sem, r0, r1]) rfl ⟨_, rfl, hr.1, hr.2⟩
end Go.Proofs.Ytggdmhkdmkldoaa

namespace Go.Proofs.Ytggdmhkdmkldoaa
open Go.RowKit Hb

/-! ### held: the owner's marks are read, then written over -/
def HeldPost (w : World) (g : Nat) (e : Ending) (w' : World) : Prop := e = .returned (.bool true) ∧ w.grownBy w' (some g)
/-- the first i of them are written -/
def HeldRel (w0 : World) (B g n c : Nat) (l : List Nat) (i : Nat) (wr : World) : Prop :=
  ∃ L : List Nat, L.length = n + 3 ∧ (∀ j, i ≤ j → L.getD j 0 = (l ++ [77, 77, 77]).getD j 0) ∧ OwnU wr B (some ⟨g, 0, none⟩) (n + 3) c (u32s L) ∧ w0.grownBy wr (some g)
theorem HeldRel.drewN {w0 wr : World} {B g n c i : Nat} {l : List Nat} (h : HeldRel w0 B g n c l i wr) (k : Nat) : HeldRel w0 B g n c l i (wr.drewN k) := by
  obtain ⟨L, h1, h2, h3, h4⟩ := h
  exact ⟨L, h1, h2, h3, gb_drewN h4 k⟩
theorem HeldRel.facts {w0 wr : World} {B g n c i : Nat} {l : List Nat} (h : HeldRel w0 B g n c l i wr) (hl : l.length = n) (hi : i < n + 3) :
    ∃ x : Nat, wr.cell? ⟨g, i, none⟩ = some (.int .u32 (x : Int)) ∧ wr.frozen? ⟨g, i, none⟩ = false ∧ (i < n → x = l.getD i 0) ∧ (n ≤ i → x = 77) ∧ HeldRel w0 B g n c l (i + 1) (wr.setCell ⟨g, i, none⟩ (.int .u32 78)) := by
  obtain ⟨L, h1, h2, h3, h4⟩ := h
  refine ⟨L.getD i 0, by rw [h3.cell hi, u32s_get (by omega)], h3.frozen _, fun h => ?_, fun h => ?_, ?_⟩
  · rw [h2 i (Nat.le_refl _), List.getD_eq_getElem?_getD, List.getElem?_append_left (by omega), ← List.getD_eq_getElem?_getD]
  · rw [h2 i (Nat.le_refl _), List.getD_eq_getElem?_getD, List.getElem?_append_right (by omega)]
    rcases (by omega : i - l.length = 0 ∨ i - l.length = 1 ∨ i - l.length = 2) with e | e | e <;> rw [e] <;> rfl
  · refine ⟨L.set i 78, by simpa using h1, fun j hj => by rw [lget_set_ne (by omega)]; exact h2 j (by omega), ?_, gb_setCell h4 i _⟩
    have := h3.set_ i (.int .u32 ((78 : Nat) : Int))
    rwa [u32s_set] at this
set_option maxRecDepth 100000 in
set_option maxHeartbeats 2000000 in
theorem held_any (s : Bool) {B B' : Nat} {A : Option Addr} {l : List Nat} {n c c' g : Nat} {w : World} (hs : SlU w B A n c l) (hB : B ≤ g) (hg : g < w.heap.size) (ho : OwnU w B' (some ⟨g, 0, none⟩) (n + 3) c' (u32s (l ++ [77, 77, 77]))) :
    Calls Try.prog 26 #[.agg #[.bool s, .slice (some ⟨g, 0, none⟩) n c'], .agg #[.bool s, .slice A n c]] w (HeldPost w g) := by
  have hl := hs.len
  obtain ⟨hcap1, hcap2⟩ := ho.cap
  unfold maxLen at hcap2
  have HL := Lib.hid hl
  have HGB := Lib.hid (gb_trans (World.grownBy_alloc w (.cells #[.bool s, .slice (some ⟨g, 0, none⟩) n c'] 24) (some g)) (World.grownBy_alloc _ (.cells #[.bool s, .slice A n c] 24) (some g)))
  have HX0 := Lib.hid ((Bx.new w (.bool s) (.slice (some ⟨g, 0, none⟩) n c')).alloc (.cells #[.bool s, .slice A n c] 24))
  have hx1 := Bx.new (w.alloc (.cells #[.bool s, .slice (some ⟨g, 0, none⟩) n c'] 24)) (.bool s) (.slice A n c)
  rw [World.size_alloc] at hx1
  have HX1 := Lib.hid hx1
  have HS := Lib.hid ((hs.mono hB).below (C := g) (((Below.refl g w).alloc (by omega) (.cells #[.bool s, .slice (some ⟨g, 0, none⟩) n c'] 24)).alloc (by simp; omega) (.cells #[.bool s, .slice A n c] 24)) (Nat.le_refl _))
  have HR0 := Lib.hid (show HeldRel ((w.alloc (.cells #[.bool s, .slice (some ⟨g, 0, none⟩) n c'] 24)).alloc (.cells #[.bool s, .slice A n c] 24)) B' g n c' l 0 ((w.alloc (.cells #[.bool s, .slice (some ⟨g, 0, none⟩) n c'] 24)).alloc (.cells #[.bool s, .slice A n c] 24)) from
    ⟨l ++ [77, 77, 77], by simp [hl], fun j _ => rfl, (ho.alloc _).alloc _, gb_refl _ _⟩)
  have hz2 : ((w.alloc (.cells #[.bool s, .slice (some ⟨g, 0, none⟩) n c'] 24)).alloc (.cells #[.bool s, .slice A n c] 24)).heap.size = w.heap.size + 2 := by simp
  have hc3 : (n : Int) + 3 ≤ (c' : Int) := by omega
  have hn9 : (n : Int) ≤ 9223372036854775804 := by omega
  clear hs ho hB hx1 hl hcap1
  go_enter Try.func26, Try.ntmps26
  go_wp2_with fail
  generalize ((w.alloc (.cells #[.bool s, .slice (some ⟨g, 0, none⟩) n c'] 24)).alloc (.cells #[.bool s, .slice A n c] 24)) = w2 at *
  go_loopw [6, 7] (fun ov iv wr => ∃ i : Nat, i ≤ n + 3 ∧ ov = .bool true ∧ iv = .int .i64 (i : Int) ∧ HeldRel w2 B' g n c' l i wr) (fun _ iv _ => n + 3 - (intOf iv).toNat)
  case atStart => exact ⟨0, Nat.zero_le _, by simp, rfl, HR0.out⟩
  case round =>
    obtain ⟨i, hi, rfl, rfl, hrel⟩ := hrel
    have HRel := Lib.hid hrel
    have HGr := Lib.hid (show w2.grownBy wr (some g) by obtain ⟨_, _, _, _, h⟩ := hrel; exact h)
    have hi0 : (0 : Int) ≤ (i : Int) := by omega
    obtain ⟨a0, a1, _, _⟩ := (HX0.out.same (HGr.out.block w.heap.size (by omega) (by simp; omega))).facts
    obtain ⟨b0, b1, _, _⟩ := (HX1.out.same (HGr.out.block (w.heap.size + 1) (by omega) (by simp; omega))).facts
    clear hrel HR0
    by_cases hin : i < n + 3
    · have hiI : (i : Int) < (n : Int) + 3 := by omega
      obtain ⟨x, hx, hfz, hx1, hx2, hstep⟩ := HRel.out.facts HL.out hin
      have HST := Lib.hid hstep
      clear hstep HRel
      by_cases hi2 : i < n
      · have hi3 : (i : Int) < (n : Int) := by omega
        have hi5 : decide (n ≤ i) = false := decide_eq_false (by omega)
        obtain rfl := hx1 hi2
        obtain ⟨b, o, rfl, hbg, hc1⟩ := SlU.at_ (HS.out.below (C := g) (gb_below HGr.out (Nat.le_refl _) (by omega)) (Nat.le_refl _)) (by omega)
        have hy := hc1 i hi2
        generalize l.getD i 0 = x at *
        clear hc1 hx1 hx2
        go_wp2_with fail
        go_quiet (fail)
        have hfz2 : (wr.drewN nq).frozen? ⟨g, i, none⟩ = false := hfz
        have HST2 := Lib.hid (show HeldRel w2 B' g n c' l (i + 1) ((wr.drewN nq).setCell ⟨g, i, none⟩ (.int .u32 78)) from HST.out.drewN nq)
        have hcell2 : (wr.drewN nq).cell? ⟨g, i, none⟩ = some (.int .u32 (x : Int)) := hx
        clear HST
        generalize wr.drewN nq = wq at *
        go_wp2_with fail
        go_roundw
        case rel => exact ⟨i + 1, by omega, by first | rfl | simp, by go_num, HST2.out⟩
        case measure => simp [intOf]; omega
      · obtain rfl := hx2 (by omega)
        have hi3 : ¬ (i : Int) < (n : Int) := by omega
        have hi4 : (n : Int) ≤ (i : Int) := by omega
        have hi5 : decide (i < n) = false := decide_eq_false (by omega)
        have hi6 : decide (n ≤ i) = true := decide_eq_true (by omega)
        have hx77 : wr.cell? ⟨g, i, none⟩ = some (.int .u32 77) := hx
        clear hx1 hx2 hx
        go_wp2_with fail
        go_quiet (fail)
        have hfz2 : (wr.drewN nq).frozen? ⟨g, i, none⟩ = false := hfz
        have HST2 := Lib.hid (show HeldRel w2 B' g n c' l (i + 1) ((wr.drewN nq).setCell ⟨g, i, none⟩ (.int .u32 78)) from HST.out.drewN nq)
        have hcell2 : (wr.drewN nq).cell? ⟨g, i, none⟩ = some (.int .u32 77) := hx77
        clear HST
        generalize wr.drewN nq = wq at *
        go_wp2_with fail
        go_roundw
        case rel => exact ⟨i + 1, by omega, by first | rfl | simp, by go_num, HST2.out⟩
        case measure => simp [intOf]; omega
    · obtain rfl : i = n + 3 := by omega
      have HGf := Lib.hid (gb_trans HGB.out HGr.out)
      clear HRel HS
      go_wp2
      go_ret
      exact ⟨rfl, HGf.out⟩
end Go.Proofs.Ytggdmhkdmkldoaa

namespace Go.Proofs.Ytggdmhkdmkldoaa
open Go.RowKit Hb

/-! ### is: an answer is the document's; it is written over -/
def IsPost (w : World) (row : Option Nat) (e : Ending) (w' : World) : Prop := e = .returned (.bool true) ∧ w.grownBy w' row
theorem Below.gb {w w' : World} (h : Below w.heap.size w w') (row : Option Nat) : w.grownBy w' row := ⟨h.os, h.tape, h.output, h.size, fun j hj _ => h.block j hj⟩
set_option maxRecDepth 100000 in
set_option maxHeartbeats 2000000 in
/-- an error: what was handed back is nought -/
theorem is_bad (s : Bool) (A A' : Option Addr) (c n' c' : Nat) (code bad : Int) (w : World) (row : Option Nat) (hc : code ≠ 0) (hb : bad = code ∨ (bad = 0 ∧ rlng n' = true ∧ code = 10)) :
    Calls Try.prog 25 #[.agg #[.bool false, .slice A 0 c], .int .i64 code, .agg #[.bool s, .slice A' n' c'], .int .i64 bad] w (IsPost w row) := by
  have HB := Lib.hid (((Below.refl w.heap.size w).alloc (Nat.le_refl _) (.cells #[.bool false, .slice A 0 c] 24)).alloc (by simp) (.cells #[.bool s, .slice A' n' c'] 28))
  have HX0 := Lib.hid (Bx.alloc (Bx.new w (.bool false) (.slice A 0 c)) (.cells #[.bool s, .slice A' n' c'] 28))
  have HX1 := Lib.hid (heap_second w (.cells #[.bool false, .slice A 0 c] 24) (.cells #[.bool s, .slice A' n' c'] 28))
  have HL := Lib.hid (fun w1 => rLong_any s A' n' c' w1)
  have hc0 : (code == 0) = false := beq_eq_false_iff_ne.2 hc
  have hsz : w.heap.size + 1 < ((w.alloc (.cells #[.bool false, .slice A 0 c] 24)).alloc (.cells #[.bool s, .slice A' n' c'] 28)).heap.size := by simp
  rcases hb with rfl | ⟨rfl, hl, rfl⟩
  · clear HL
    go_enter Try.func25, Try.ntmps25
    obtain ⟨a0, a1, _, _⟩ := HX0.out.facts
    go_upto_region 1 with fail
    generalize ((w.alloc (.cells #[.bool false, .slice A 0 c] 24)).alloc (.cells #[.bool s, .slice A' n' c'] 28)) = w2 at *
    go_wp2
    go_ret
    exact ⟨rfl, Below.gb HB.out _⟩
  · rw [hl] at HL
    go_enter Try.func25, Try.ntmps25
    obtain ⟨b0, b1, _, _⟩ := two_cells (Below.refl _ _) HX1.out hsz
    go_upto_region 1 with fail
    generalize ((w.alloc (.cells #[.bool false, .slice A 0 c] 24)).alloc (.cells #[.bool s, .slice A' n' c'] 28)) = w2 at *
    go_wp2_with fail
    (with_reducible refine (HL.out _).mono ?_)
    rintro ex w3 ⟨rfl, hb3⟩
    obtain ⟨a0, a1, _, _⟩ := (HX0.out.below hb3 HX0.out.lt).facts
    have HB3 := Lib.hid (HB.out.trans (hb3.mono HB.out.size))
    clear hb3 b0 b1
    go_wp2
    go_ret
    exact ⟨rfl, Below.gb HB3.out _⟩
/-- the answer's limbs are written over, one by one -/
def IsRel (w0 : World) (B : Nat) (A : Option Addr) (n c : Nat) (wr : World) : Prop :=
  ∃ L : List Nat, L.length = n ∧ OwnU wr B A n c (u32s L) ∧ w0.grownBy wr (A.map Addr.block)
theorem IsRel.fill {w0 wr : World} {B g n c : Nat} (h : IsRel w0 B (some ⟨g, 0, none⟩) n c wr) (i : Nat) : IsRel w0 B (some ⟨g, 0, none⟩) n c (wr.setCell ⟨g, i, none⟩ (.int .u32 99)) := by
  obtain ⟨L, h1, h2, h3⟩ := h
  refine ⟨L.set i 99, by simpa using h1, ?_, gb_setCell h3 i _⟩
  have := h2.set_ i (.int .u32 ((99 : Nat) : Int))
  rwa [u32s_set] at this
def IntPost (w : World) (s : Bool) (l : List Nat) (n : Nat) (e : Ending) (w' : World) : Prop :=
  ∃ A2 c2, e = .returned (.agg #[.bool s, .slice A2 n c2]) ∧ OwnU w' w.heap.size A2 n c2 (u32s l) ∧ Below w.heap.size w w'
theorem own_fives (w : World) {B : Nat} (hB : B ≤ w.heap.size) : OwnU (w.alloc (.cells #[.int .u32 5, .int .u32 5] 48)) B (some ⟨w.heap.size, 0, none⟩) 2 2 (u32s [5, 5]) :=
  Own.of_block (xs := u32s [5, 5]) (by exact heap_alloc_new w _) hB (by simp [u32s, maxLen])
/-- behind the last store -/
theorem is_end {w wr w3 : World} {A : Option Addr} {g3 : Nat} (hg : w.grownBy wr (A.map Addr.block)) (hos : w3.os = wr.os) (htape : w3.tape = wr.tape) (hout : w3.output = wr.output) (hsz : wr.heap.size ≤ w3.heap.size)
    (hfar : ∀ j, j < wr.heap.size → A ≠ some ⟨j, 0, none⟩ → w3.heap[j]? = wr.heap[j]?) (hA : A = none ∨ ∃ g, A = some ⟨g, 0, none⟩) (h3 : A = some ⟨g3, 0, none⟩ ∨ wr.heap.size ≤ g3) (i : Nat) (u : Value) :
    w.grownBy (w3.setCell ⟨g3, i, none⟩ u) (A.map Addr.block) := by
  have hz := hg.size
  refine ⟨hos.trans hg.os, htape.trans hg.tape, hout.trans hg.output, by simpa [World.setCell] using Nat.le_trans hz hsz, fun j hj hne => ?_⟩
  have h1 : A ≠ some ⟨j, 0, none⟩ := by rintro rfl; exact hne rfl
  have h2 : j ≠ g3 := by
    rcases h3 with h3 | h3
    · rintro rfl; exact h1 h3
    · omega
  rw [Below.heap_setCell w3 ⟨g3, i, none⟩ u j h2, hfar j (by omega) h1, hg.block j hj hne]
set_option maxRecDepth 100000 in
set_option maxHeartbeats 4000000 in
theorem is_good {z : Int} {B B' : Nat} {A A' : Option Addr} {c c' : Nat} {w : World} (ho : OwnU w B A (digs W z.natAbs).length c (u32s (digs W z.natAbs))) (hB : B ≤ w.heap.size)
    (ht : SlI w B' A' (digs 2 z.natAbs).length c' (digs 2 z.natAbs)) (hB' : B' ≤ w.heap.size) (hl : rlng (digs 2 z.natAbs).length = false) (hn : (digs W z.natAbs).length ≤ 1000) :
    Calls Try.prog 25 #[.agg #[.bool (decide (z < 0)), .slice A (digs W z.natAbs).length c], .int .i64 0, .agg #[.bool (decide (z < 0)), .slice A' (digs 2 z.natAbs).length c'], .int .i64 0] w (IsPost w (A.map Addr.block)) := by
  have HAf := Lib.hid (show A = none ∨ ∃ g, A = some ⟨g, 0, none⟩ by
    rcases ho.form with ⟨h, _⟩ | ⟨g, h, _⟩
    · exact .inl h
    · exact .inr ⟨g, h⟩)
  have HAo := Lib.hid (show ∀ W : World, w.heap.size ≤ W.heap.size → (A.map Addr.block) ≠ some w.heap.size by
    rcases ho.form with ⟨h, _⟩ | ⟨g, h, _, h2⟩
    · rw [h]; intro _ _ e; cases e
    · rw [h]; intro _ _ e; simp at e; omega)
  have HB := Lib.hid (((Below.refl w.heap.size w).alloc (Nat.le_refl _) (.cells #[.bool (decide (z < 0)), .slice A (digs W z.natAbs).length c] 24)).alloc (by simp) (.cells #[.bool (decide (z < 0)), .slice A' (digs 2 z.natAbs).length c'] 28))
  have HX0 := Lib.hid (Bx.alloc (Bx.new w (.bool (decide (z < 0))) (.slice A (digs W z.natAbs).length c)) (.cells #[.bool (decide (z < 0)), .slice A' (digs 2 z.natAbs).length c'] 28))
  have HX1 := Lib.hid (heap_second w (.cells #[.bool (decide (z < 0)), .slice A (digs W z.natAbs).length c] 24) (.cells #[.bool (decide (z < 0)), .slice A' (digs 2 z.natAbs).length c'] 28))
  have HL := Lib.hid (fun w1 => rLong_any (decide (z < 0)) A' (digs 2 z.natAbs).length c' w1)
  rw [hl] at HL
  have HO := Lib.hid (fun w1 (hb : Below w.heap.size w w1) => ho.below hb (Nat.le_refl _))
  have hlen : (digs 2 z.natAbs).length ≤ 4096 := by have := of_decide_eq_false hl; omega
  have HI := Lib.hid (fun w1 (hb : Below w.heap.size w w1) => show Calls Try.prog 35 #[.agg #[.bool (decide (z < 0)), .slice A' (digs 2 z.natAbs).length c']] w1 (IntPost w1 (decide (z < 0)) (digs W z.natAbs) (digs W z.natAbs).length) from
    (Int_raw (decide (z < 0)) (ht.below (C := w.heap.size) hb hB') (nrm_digs (by decide) _) (by omega) (Nat.le_trans hB' hb.size) (z := z) (by rw [nv_digs (by decide)]) rfl).mono fun e w2 ⟨v, he, ⟨A2, c2, hv, ho2⟩, hb2⟩ => ⟨A2, c2, by rw [he, hv], ho2, hb2⟩)
  have HSm := Lib.hid (fun w1 (hb : Below w.heap.size w w1) (w3 : World) (A2 : Option Addr) (c2 : Nat) (hb2 : Below w1.heap.size w1 w3) (ho2 : OwnU w3 w1.heap.size A2 (digs W z.natAbs).length c2 (u32s (digs W z.natAbs))) =>
    rsame_true (decide (z < 0)) (Own.sl (ho.below (hb.trans (hb2.mono hb.size)) (Nat.le_refl _)) (dig_digs (by decide) _) rfl) (Own.sl ho2 (dig_digs (by decide) _) rfl) (Nat.le_refl _) (Nat.le_refl _))
  have hsz : w.heap.size + 1 < ((w.alloc (.cells #[.bool (decide (z < 0)), .slice A (digs W z.natAbs).length c] 24)).alloc (.cells #[.bool (decide (z < 0)), .slice A' (digs 2 z.natAbs).length c'] 28)).heap.size := by simp
  have HCp := Lib.hid ho.cap
  have HDg := Lib.hid (dig_digs (b := W) (by decide) z.natAbs)
  clear ho ht hl HDg
  generalize digs W z.natAbs = l at *
  generalize digs 2 z.natAbs = m at *
  generalize decide (z < 0) = s at *
  generalize hn9 : l.length = n at *
  generalize m.length = n' at *
  have hnI : (n : Int) ≤ 1000 := by omega
  have HLn := Lib.hid hn9
  clear hn9
  go_enter Try.func25, Try.ntmps25
  obtain ⟨b0, b1, _, _⟩ := two_cells (Below.refl _ _) HX1.out hsz
  go_upto_region 1 with fail
  generalize ((w.alloc (.cells #[.bool s, .slice A n c] 24)).alloc (.cells #[.bool s, .slice A' n' c'] 28)) = w2 at *
  go_wp2_with fail
  (with_reducible refine (HL.out _).mono ?_)
  rintro ex w3 ⟨rfl, hb3⟩
  have HB3 := Lib.hid (HB.out.trans (hb3.mono HB.out.size))
  have HX3 := Lib.hid (HX0.out.below hb3 HX0.out.lt)
  have HSS := Lib.hid (fun w' (hb : Below w3.heap.size w3 w') => And.intro (And.intro (HX3.out.below hb HX3.out.lt).facts.1 (HX3.out.below hb HX3.out.lt).facts.2.1) (And.intro (two_cells (hb3.trans (hb.mono hb3.size)) HX1.out hsz).1 (two_cells (hb3.trans (hb.mono hb3.size)) HX1.out hsz).2.1))
  clear hb3 b0 b1
  go_upto_region 6 with fail
  obtain ⟨⟨a0, a1⟩, ⟨b0, b1⟩⟩ := HSS.out _ (Below.refl _ w3)
  go_region_held3 (fun w' => (w'.cell? ⟨w.heap.size, 0, none⟩ = some (.bool s) ∧ w'.cell? ⟨w.heap.size, 1, none⟩ = some (.slice A n c)) ∧ (w'.cell? ⟨w.heap.size + 1, 0, none⟩ = some (.bool s) ∧ w'.cell? ⟨w.heap.size + 1, 1, none⟩ = some (.slice A' n' c')))
    (first | (go_keep; done) | exact HSS.out _ k5 | exact HSS.out _ k4 | exact HSS.out _ (Below.refl w3.heap.size w3).drew)
    (first
      | (go_at_call 35; (with_reducible refine (HI.out _ HB3.out.drew).mono ?_); rintro e w4 ⟨A4, c4, rfl, ho4, hb4⟩; have k4 : Below w3.heap.size w3 w4 := (Below.refl w3.heap.size w3).drew.trans hb4; have kz4 := k4.size)
      | (go_at_call 33; (with_reducible refine (HSm.out _ HB3.out.drew _ _ _ hb4 ho4).mono ?_); rintro e w5 ⟨rfl, hb5⟩; have k5 : Below w3.heap.size w3 w5 := k4.trans (hb5.mono kz4)))
  have HB5 := Lib.hid (HB3.out.trans (k5.mono HB3.out.size))
  have HX5 := Lib.hid (HX3.out.below k5 HX3.out.lt)
  have HR0 := Lib.hid (show IsRel w5 B A n c w5 from ⟨l, HLn.out, HO.out _ HB5.out, gb_refl _ _⟩)
  have hz5 := HX5.out.lt
  clear hb4 hb5 k4 k5 a0 a1 b0 b1 ho4 HX3 HSS HI HSm HX0 HX1
  go_upto_region 8 with fail
  go_loopw [11] (fun iv wr => ∃ i : Nat, i ≤ n ∧ iv = .int .i64 (i : Int) ∧ IsRel w5 B A n c wr) (fun iv _ => n - (intOf iv).toNat)
  case atStart => exact ⟨0, Nat.zero_le _, rfl, HR0.out⟩
  case round =>
    obtain ⟨i, hi, rfl, hrel⟩ := hrel
    have HRel := Lib.hid hrel
    obtain ⟨L, hL, hoL, hgL⟩ := hrel
    have HOL := Lib.hid hoL
    have HGL := Lib.hid hgL
    have hzr := hgL.size
    obtain ⟨a0, a1, _, _⟩ := (HX5.out.same (hgL.block w.heap.size hz5 (HAo.out w (Nat.le_refl _)).symm)).facts
    have hi0 : (0 : Int) ≤ (i : Int) := by omega
    clear HR0 hgL
    by_cases hin : i < n
    · have hiI : (i : Int) < (n : Int) := by omega
      obtain ⟨g, rfl, hgB, hgz⟩ := hoL.at_ (by omega)
      have hcell := hoL.cell hin
      rw [u32s_get (by omega)] at hcell
      have hfz := hoL.frozen i
      generalize L.getD i 0 = x at *
      have HS := Lib.hid (HRel.out.fill i)
      clear hoL HRel HOL HGL
      go_wp2_with fail
      go_roundw
      case rel => exact ⟨i + 1, by omega, by go_num, HS.out⟩
      case measure => simp [intOf]; omega
    · obtain rfl : i = n := by omega
      have hBr : B ≤ wr.heap.size := Nat.le_trans hB (Nat.le_trans HB5.out.size hzr)
      have hbd : i + 2 ≤ 67108864 := by omega
      have HG2 := Lib.hid (gb_trans (gb_trans (Below.gb HB5.out (A.map Addr.block)) HGL.out) (World.grownBy_alloc wr (.cells #[.int .u32 5, .int .u32 5] 48) (A.map Addr.block)))
      clear hoL HRel HGL
      go_wp2_with (at_builtin; ((refine wpList_plain (by rfl) fun K hK => ?_); (refine wp_append_far (base := B) (l0 := L) (l := [5, 5]) (A := some ⟨wr.heap.size, 0, none⟩) (A0 := A) (n0 := i) (c0 := c) (m := 2) (c := 2) _ _ (by rfl) (by rfl) (Own.alloc HOL.out _) (by rfl) (fun h => by cases h) (Own.sl (own_fives wr (B := wr.heap.size) (Nat.le_refl _)) (dig_two (by decide) (by decide)) rfl) hbd (Nat.le_trans hBr (by simp)) ?_); intro A3 c3 w6 ho6 hb6 hfar6 h36; obtain ⟨g3, hA3, hg31, hg32⟩ := Own.at_ ho6 (by omega); subst hA3; have hc6 := ho6.cell (j := 0) (by omega); have hf6 := ho6.frozen 0; rw [u32s_get (l := L ++ [5, 5]) (i := 0) (by simp)] at hc6; have HE := Lib.hid (is_end HG2.out hb6.os hb6.tape hb6.output hb6.size hfar6 HAf.out (h36 g3 rfl) 0 (.int .u32 6)); have HCc := Lib.hid ho6.cap; have hcc := HCc.out.1; clear ho6 hb6 hfar6 h36; generalize (L ++ [5, 5]).getD 0 0 = y0 at hc6; (refine hK _ _ ?_)))
      go_ret
      exact ⟨rfl, HE.out⟩
end Go.Proofs.Ytggdmhkdmkldoaa
