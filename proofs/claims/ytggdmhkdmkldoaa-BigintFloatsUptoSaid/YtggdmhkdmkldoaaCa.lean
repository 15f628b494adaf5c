import Derived.Test.YtggdmhkdmkldoaaBp
namespace Go.Proofs.Ytggdmhkdmkldoaa
open Go.RowKit Hb

/-- an integer as a small one -/
def toB (z : Int) : Bool := decide (-9223372036854775808 ≤ z ∧ z ≤ 9223372036854775807)
def toV (z : Int) : Int := if toB z then z else 0
theorem toV_ok {z : Int} (h : -9223372036854775808 ≤ z ∧ z ≤ 9223372036854775807) : toB z = true ∧ toV z = z := by
  have : toB z = true := by simp [toB, h]
  exact ⟨this, by simp [toV, this]⟩
theorem toV_no {z : Int} (h : ¬ (-9223372036854775808 ≤ z ∧ z ≤ 9223372036854775807)) : toB z = false ∧ toV z = 0 := by
  have : toB z = false := by simp only [toB]; exact decide_eq_false h
  exact ⟨this, by simp [toV, this]⟩
theorem or_lo_hi (h lo : Nat) (hh : h < 4294967296) (hl : lo < 4294967296) : bits .or .u64 (lo : Int) ((h : Int) * 4294967296) = ((h * 4294967296 + lo : Nat) : Int) := by
  have := bits_or_u64 lo (h * 4294967296) (by omega) (by omega)
  rw [or_add (s := 32) (by omega) (by omega)] at this
  rw [show ((h : Int) * 4294967296) = ((h * 4294967296 : Nat) : Int) by omega, this]
  omega
def ToPost (w : World) (z : Int) (e : Ending) (w' : World) : Prop := e = .returned (.tuple #[.int .i64 (toV z), .bool (toB z)]) ∧ Below w.heap.size w w'
theorem ToPost.mk {w w' : World} {z a : Int} {b : Bool} (h1 : toV z = a) (h2 : toB z = b) (hb : Below w.heap.size w w') : ToPost w z (.returned (.tuple #[.int .i64 a, .bool b])) w' := by
  subst h1; subst h2; exact ⟨rfl, hb⟩
theorem ival_big {neg : Bool} {l : List Nat} (h : ¬ nv W l ≤ 9223372036854775808) : ¬ (-9223372036854775808 ≤ ival neg l ∧ ival neg l ≤ 9223372036854775807) := by
  unfold ival; split <;> omega
theorem nv_two {l : List Nat} (hd : Dig W l) (h : tlen l ≤ 2) : nv W l < 18446744073709551616 := by
  have h1 := nv_lt hd.tr
  rw [nv_tr, tr_length] at h1
  exact Nat.lt_of_lt_of_le h1 (Nat.le_trans (Nat.pow_le_pow_right (by decide) h) (by decide))
theorem nv_three {l : List Nat} (h : 2 < tlen l) : ¬ nv W l ≤ 9223372036854775808 := by
  have h1 := nv_ge (b := W) (tr_nrm l) (by intro e; have := tr_length l; rw [e] at this; simp at this; omega)
  rw [nv_tr, tr_length] at h1
  have : W ^ 2 ≤ W ^ (tlen l - 1) := Nat.pow_le_pow_right (by decide) (by omega)
  have h2 : W ^ 2 = 18446744073709551616 := by decide
  omega

set_option maxHeartbeats 1000000 in
theorem to_any (neg : Bool) {B : Nat} {A : Option Addr} {l : List Nat} {n c : Nat} {w : World} (hs : SlU w B A n c l) (hB : B ≤ w.heap.size) :
    Calls Try.prog 40 #[.agg #[.bool neg, .slice A n c]] w (ToPost w (ival neg l)) := by
  have HI := Lib.hid (fun w1 (hb : Below w.heap.size w w1) => trim_any (hs.below (C := w.heap.size) hb hB))
  have HB := Lib.hid (Below.refl w.heap.size w)
  have ht := tlen_le l
  have hlen := hs.len
  by_cases h2 : 2 < tlen l
  · obtain ⟨g1, g2⟩ := toV_no (ival_big (neg := neg) (nv_three h2))
    have G1 := Lib.hid g1
    have G2 := Lib.hid g2
    generalize ival neg l = z at *
    generalize tlen l = N at *
    have hd : decide ((2 : Int) < (N : Int)) = true := decide_eq_true (by omega)
    have hd2 : decide (2 < N) = true := decide_eq_true (by omega)
    clear hs hB g1 g2 ht hlen
    go_enter Try.func40, Try.ntmps40
    go_wp2_with (go_at_call 80; refine (HI.out _ (HB.out.alloc (Nat.le_refl _) _)).mono ?_; rintro e w' ⟨rfl, rfl⟩)
    go_ret2
    exact ToPost.mk G2.out G1.out (HB.out.alloc (Nat.le_refl _) _)
  · have hu := nv_two hs.dig (by omega)
    have hcellH := Lib.hid (fun (hn : 0 < tlen l) => hs.at_ (by omega))
    have HD := Lib.hid hs.dig
    have HV := Lib.hid (show nvp W l (tlen l) = nv W l by rw [← nv_tr W l]; rfl)
    have hd : decide ((2 : Int) < (tlen l : Int)) = false := decide_eq_false (by omega)
    have hd2 : decide (2 < tlen l) = false := decide_eq_false (by omega)
    have HN := Lib.hid (show tlen l ≤ n by omega)
    have hN2 : tlen l ≤ 2 := by omega
    generalize hN : tlen l = N at *
    clear hs hN ht hlen h2
    go_enter Try.func40, Try.ntmps40
    go_wp2_with (go_at_call 80; refine (HI.out _ (HB.out.alloc (Nat.le_refl _) _)).mono ?_; rintro e w' ⟨rfl, rfl⟩)
    go_loop [5, 16] (fun u i => ∃ k : Nat, k ≤ N ∧ i = .int .i64 k ∧ u = .int .u64 (nvp W l k : Nat)) (fun _ i => N - (intOf i).toNat)
    case atStart => exact ⟨0, Nat.zero_le _, rfl, by rw [nvp_zero]; rfl⟩
    case round =>
      obtain ⟨k, hk, rfl, rfl⟩ := hrel
      by_cases hkN : k < N
      · obtain ⟨b, o, rfl, hbB, hc⟩ := hcellH.out (by omega)
        have hx := (((HB.out.alloc (Nat.le_refl _) (.cells #[.bool neg, .slice (some ⟨b, o, none⟩) n c] 24)).cell (p := ⟨b, o + k, none⟩) (by simp; omega))).trans (hc k (by have := HN.out; omega))
        have hxb : l.getD k 0 < 4294967296 := HD.out.getD (by decide) k
        have hS := nvp_succ W l k
        have hlt := nvp_lt HD.out (by decide) k
        generalize l.getD k 0 = x at *
        obtain ⟨v, hv⟩ : ∃ v, nvp W l (k + 1) = v := ⟨_, rfl⟩
        rw [hv] at hS
        have HS := Lib.hid hv
        generalize nvp W l k = u at *
        clear hv hc
        obtain rfl | rfl : k = 0 ∨ k = 1 := by omega
        · obtain rfl : u = 0 := by simpa using hlt
          obtain rfl : v = x := by rw [hS]; simp
          have hor : bits .or .u64 (0 : Int) (v : Int) = (v : Int) := by simpa using bits_or_u64 0 v (by omega) (by omega)
          rw [Nat.add_zero] at hx
          clear hS hlt
          go_wp2
          go_round
          case rel => exact ⟨1, by omega, by go_num, by rw [HS.out]⟩
          case measure => simp [intOf]; omega
        · have hu4 : u < 4294967296 := by rw [Nat.pow_one] at hlt; exact hlt
          have hor := or_lo_hi x u hxb hu4
          obtain rfl : v = x * 4294967296 + u := by rw [hS, Nat.pow_one]; show u + 4294967296 * x = _; omega
          clear hS hlt
          go_wp2
          go_round
          case rel => exact ⟨2, by omega, by go_num, by rw [HS.out]; go_num⟩
          case measure => simp [intOf]; omega
      · obtain rfl : k = N := by omega
        rw [HV.out]
        cases neg
        · by_cases hz : nv W l < 9223372036854775808
          · obtain ⟨g1, g2⟩ := toV_ok (z := ival false l) (by simp only [ival]; simp; omega)
            have G1 := Lib.hid g1
            have G2 := Lib.hid (show toV (ival false l) = (nv W l : Int) from g2)
            have d1 : decide ((nv W l : Int) < 9223372036854775808) = true := decide_eq_true (by omega)
            generalize ival false l = z at *
            generalize nv W l = u at *
            have hz2 : (u : Int) ≤ 9223372036854775807 := by omega
            clear g1 g2 hz HV
            go_wp2
            go_ret2
            exact ToPost.mk G2.out G1.out (HB.out.alloc (Nat.le_refl _) _)
          · obtain ⟨g1, g2⟩ := toV_no (z := ival false l) (by simp only [ival]; simp; omega)
            have G1 := Lib.hid g1
            have G2 := Lib.hid g2
            have d1 : decide ((nv W l : Int) < 9223372036854775808) = false := decide_eq_false (by omega)
            generalize ival false l = z at *
            generalize nv W l = u at *
            clear g1 g2 hz HV
            go_wp2
            go_ret2
            exact ToPost.mk G2.out G1.out (HB.out.alloc (Nat.le_refl _) _)
        · by_cases hz : nv W l ≤ 9223372036854775808
          · obtain ⟨g1, g2⟩ := toV_ok (z := ival true l) (by simp only [ival]; simp; omega)
            have G1 := Lib.hid g1
            have G2 := Lib.hid (show toV (ival true l) = -(nv W l : Int) from g2)
            have d1 : decide ((nv W l : Int) ≤ 9223372036854775808) = true := decide_eq_true (by omega)
            generalize ival true l = z at *
            generalize nv W l = u at *
            clear g1 g2 HV
            have e1 : IntKind.i64.wrap (IntKind.u64.wrap (-(u : Int))) = -(u : Int) := by simp only [IntKind.wrap_u64, IntKind.wrap_i64]; omega
            go_wp2
            go_ret2
            exact ToPost.mk G2.out G1.out (HB.out.alloc (Nat.le_refl _) _)
          · obtain ⟨g1, g2⟩ := toV_no (z := ival true l) (ival_big hz)
            have G1 := Lib.hid g1
            have G2 := Lib.hid g2
            have d1 : decide ((nv W l : Int) ≤ 9223372036854775808) = false := decide_eq_false (by omega)
            generalize ival true l = z at *
            generalize nv W l = u at *
            clear g1 g2 hz HV
            go_wp2
            go_ret2
            exact ToPost.mk G2.out G1.out (HB.out.alloc (Nat.le_refl _) _)
end Go.Proofs.Ytggdmhkdmkldoaa
