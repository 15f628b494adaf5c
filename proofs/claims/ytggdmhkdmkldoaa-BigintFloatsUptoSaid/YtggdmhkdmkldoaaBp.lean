import Derived.Test.YtggdmhkdmkldoaaBo
namespace Go.Proofs.Ytggdmhkdmkldoaa
open Go.RowKit Hb

theorem or_add {s a b : Nat} (ha : a < 2 ^ s) (hb : b % 2 ^ s = 0) : a ||| b = a + b := by
  have h := Nat.two_pow_add_eq_or_of_lt ha (b / 2 ^ s)
  have e : 2 ^ s * (b / 2 ^ s) = b := by have := Nat.mod_add_div b (2 ^ s); omega
  rw [e] at h
  rw [Nat.or_comm, ← h, Nat.add_comm]
theorem bits_or_u32 (a b : Nat) (ha : a < 4294967296) (hb : b < 4294967296) : bits .or .u32 (a : Int) (b : Int) = ((a ||| b : Nat) : Int) := by
  have hx : a ||| b < 2 ^ 32 := Nat.or_lt_two_pow (by omega) (by omega)
  show IntKind.u32.wrap ((BitVec.ofInt 32 (a : Int) ||| BitVec.ofInt 32 (b : Int)).toNat : Int) = _
  rw [BitVec.toNat_or, u32_bv _ (by omega) (by omega), u32_bv _ (by omega) (by omega), IntKind.wrap_u32, Int.toNat_natCast, Int.toNat_natCast]
  omega
theorem u64_bv (n : Nat) (h1 : n < 18446744073709551616) : (BitVec.ofInt 64 (n : Int)).toNat = n := by
  rw [BitVec.ofInt_natCast, BitVec.toNat_ofNat]
  exact Nat.mod_eq_of_lt (by omega)
theorem bits_or_u64 (a b : Nat) (ha : a < 18446744073709551616) (hb : b < 18446744073709551616) : bits .or .u64 (a : Int) (b : Int) = ((a ||| b : Nat) : Int) := by
  have hx : a ||| b < 2 ^ 64 := Nat.or_lt_two_pow (by omega) (by omega)
  show IntKind.u64.wrap ((BitVec.ofInt 64 (a : Int) ||| BitVec.ofInt 64 (b : Int)).toNat : Int) = _
  rw [BitVec.toNat_or, u64_bv _ ha, u64_bv _ hb, IntKind.wrap_u64]
  omega
/-- hi<<32 | lo -/
theorem or_hi_lo (h lo : Nat) (hh : h < 4294967296) (hl : lo < 4294967296) : bits .or .u64 ((h : Int) * 4294967296) (lo : Int) = ((h * 4294967296 + lo : Nat) : Int) := by
  have := bits_or_u64 (h * 4294967296) lo (by omega) (by omega)
  rw [Nat.or_comm, or_add (s := 32) (by omega) (by omega)] at this
  rw [show ((h : Int) * 4294967296) = ((h * 4294967296 : Nat) : Int) by omega, this]
  omega
theorem or_hi_lo_u32 {s : Nat} (d t : Nat) (hs : s ≤ 32) (hd : d < 2 ^ s) (ht : t % 2 ^ s = 0) :
    bits .or .u32 (d : Int) ((t : Int) % 4294967296) = ((d + t % 4294967296 : Nat) : Int) := by
  have h32 : (2 : Nat) ^ s ≤ 4294967296 := Nat.pow_le_pow_right (by decide) hs
  have h1 : t % 4294967296 % 2 ^ s = 0 := by rw [Nat.mod_mod_of_dvd _ (show 2 ^ s ∣ 4294967296 from Nat.pow_dvd_pow 2 hs)]; exact ht
  have := bits_or_u32 d (t % 4294967296) (by omega) (Nat.mod_lt _ (by decide))
  rw [or_add hd h1] at this
  rw [show (t : Int) % 4294967296 = ((t % 4294967296 : Nat) : Int) by omega, this]

set_option maxHeartbeats 1000000 in
theorem div32_any (h lo y : Nat) (w : World) (hh : h < y) (hy : y < 4294967296) (hl : lo < 4294967296) :
    Calls Try.prog 81 #[.int .u32 (h : Int), .int .u32 (lo : Int), .int .u32 (y : Int)] w fun e w' =>
      e = .returned (.tuple #[.int .u32 ((h * 4294967296 + lo) / y : Nat), .int .u32 ((h * 4294967296 + lo) % y : Nat)]) ∧ Dr w w' := by
  have h0 : ((y : Int) != 0) = true := by rw [bne_iff_ne]; omega
  have h1 : decide ((y : Int) ≤ (h : Int)) = false := decide_eq_false (by omega)
  have h2 : decide (y ≤ h) = false := decide_eq_false (by omega)
  have h3 : (1 : Int) ≤ (y : Int) := by omega
  have hor := or_hi_lo h lo (by omega) hl
  have hz : h * 4294967296 + lo < y * 4294967296 := by omega
  have hzq : (h * 4294967296 + lo) / y < 4294967296 := Nat.div_lt_of_lt_mul (by omega)
  have hzr : (h * 4294967296 + lo) % y < y := Nat.mod_lt _ (by omega)
  have hz9 : h * 4294967296 + lo < 18446744073709551616 := by omega
  generalize h * 4294967296 + lo = z at *
  obtain ⟨q, hq⟩ : ∃ q, z / y = q := ⟨_, rfl⟩
  obtain ⟨r, hr⟩ : ∃ r, z % y = r := ⟨_, rfl⟩
  have hqi : (z : Int) / (y : Int) = (q : Int) := by rw [← hq]; simp
  have hri : (z : Int) % (y : Int) = (r : Int) := by rw [← hr]; simp
  rw [hq] at hzq ⊢
  rw [hr] at hzr ⊢
  clear hq hr hz
  go_enter Try.func81, Try.ntmps81
  go_wp2_with fail
  go_quiet (fail)
  go_wp2
  go_ret2
  exact ⟨ret_tup (int_eq (by omega)) (int_eq (by omega)), (Dr.refl _).more _⟩

def ShlRel (w : World) (l : List Nat) (s n k : Nat) (wr : World) : Prop :=
  ∃ o : List Nat, o.length = n + 1 ∧ Dig W o ∧ (∀ j, k < j → o.getD j 0 = 0) ∧ o.getD k 0 < 2 ^ s ∧ nv W o = nvp W l k * 2 ^ s ∧
    OwnU wr w.heap.size (some ⟨w.heap.size, 0, none⟩) (n + 1) (n + 1) (u32s o) ∧ Below w.heap.size w wr
theorem getD_replicate (n j : Nat) : (List.replicate n 0).getD j 0 = 0 := by
  rw [List.getD_eq_getElem?_getD, List.getElem?_replicate]; split <;> rfl
theorem ShlRel.start (w : World) (l : List Nat) (s n : Nat) (hn : n + 1 ≤ maxLen) : ShlRel w l s n 0 (w.alloc (.cells (madeCells #[.int .u32 0] (n + 1)) 48)) := by
  refine ⟨List.replicate (n + 1) 0, by simp, Dig.replicate _ _ (by decide), fun j _ => getD_replicate _ _, by rw [getD_replicate]; exact Nat.pow_pos (by decide), by rw [nv_replicate, nvp_zero, Nat.zero_mul], ?_, (Below.refl _ _).alloc (Nat.le_refl _) _⟩
  have := Own.made w (.int .u32 0) (n + 1) 48 (B := w.heap.size) (Nat.le_refl _) hn
  rwa [u32s_zeros] at this
theorem shl_num {s x d : Nat} (hs : s < 32) (hx : x < 4294967296) (hd : d < 2 ^ s) :
    x * 2 ^ s < 9223372036854775808 ∧ x * 2 ^ s / 4294967296 < 2 ^ s ∧ d + x * 2 ^ s % 4294967296 < 4294967296 ∧ 2 ^ s ≤ 2147483648 := by
  have h31 : (2 : Nat) ^ s ≤ 2 ^ 31 := Nat.pow_le_pow_right (by decide) (by omega)
  have h1 : x * 2 ^ s ≤ 4294967295 * 2 ^ s := Nat.mul_le_mul_right _ (by omega)
  refine ⟨by omega, Nat.div_lt_of_lt_mul (by omega), ?_, by omega⟩
  have h2 : x * 2 ^ s % 4294967296 % 2 ^ s = 0 := by
    rw [Nat.mod_mod_of_dvd _ (show 2 ^ s ∣ 4294967296 from Nat.pow_dvd_pow 2 (show s ≤ 32 by omega))]; exact Nat.mul_mod_left _ _
  have h3 : x * 2 ^ s % 4294967296 < 4294967296 := Nat.mod_lt _ (by decide)
  obtain ⟨c, hc⟩ := Nat.dvd_of_mod_eq_zero h2
  obtain ⟨e, he⟩ : 2 ^ s ∣ 4294967296 := Nat.pow_dvd_pow 2 (show s ≤ 32 by omega)
  rw [hc] at h3 ⊢
  have h4 : c < e := by
    rcases Nat.lt_or_ge c e with h | h
    · exact h
    · have := Nat.mul_le_mul_left (2 ^ s) h; omega
  have := Nat.mul_le_mul_left (2 ^ s) (show c + 1 ≤ e from h4)
  rw [Nat.mul_add] at this
  omega
theorem ShlRel.facts {w wr : World} {l : List Nat} {s n k : Nat} (h : ShlRel w l s n k wr) (hk : k < n) (hs : s < 32) (hl : Dig W l) :
    ∃ d : Nat, d < 2 ^ s ∧ wr.cell? ⟨w.heap.size, k, none⟩ = some (.int .u32 (d : Int)) ∧ wr.frozen? ⟨w.heap.size, k, none⟩ = false ∧
      (∃ u, wr.cell? ⟨w.heap.size, k + 1, none⟩ = some u) ∧ wr.frozen? ⟨w.heap.size, k + 1, none⟩ = false ∧
      ShlRel w l s n (k + 1) ((wr.setCell ⟨w.heap.size, k, none⟩ (.int .u32 ((d + l.getD k 0 * 2 ^ s % 4294967296 : Nat) : Int))).setCell ⟨w.heap.size, k + 1, none⟩ (.int .u32 ((l.getD k 0 * 2 ^ s / 4294967296 : Nat) : Int))) := by
  obtain ⟨o, h1, h2, h3, h4, h5, h6, h7⟩ := h
  have hx : l.getD k 0 < 4294967296 := hl.getD (by decide) k
  obtain ⟨g1, g2, g3, g4⟩ := shl_num hs hx h4
  refine ⟨o.getD k 0, h4, by rw [h6.cell (by omega), u32s_get (by omega)], h6.frozen k, ⟨_, by rw [h6.cell (by omega), u32s_get (by omega)]⟩, h6.frozen (k + 1), ?_⟩
  refine ⟨(o.set k (o.getD k 0 + l.getD k 0 * 2 ^ s % 4294967296)).set (k + 1) (l.getD k 0 * 2 ^ s / 4294967296), by simpa using h1, (h2.set g3 _).set (show _ < 4294967296 by omega) _, fun j hj => ?_, ?_, ?_, ?_, (h7.setCell (Nat.le_refl _) _).setCell (Nat.le_refl _) _⟩
  · rw [lget_set_ne (by omega), lget_set_ne (by omega)]; exact h3 j (by omega)
  · rw [List.getD_eq_getElem?_getD, List.getElem?_set_self (by simp; omega)]; exact g2
  · have e1 := nv_set W (l := o) (p := k) (by omega) (o.getD k 0 + l.getD k 0 * 2 ^ s % 4294967296)
    have e2 := nv_set W (l := o.set k (o.getD k 0 + l.getD k 0 * 2 ^ s % 4294967296)) (p := k + 1) (by simp; omega) (l.getD k 0 * 2 ^ s / 4294967296)
    rw [lget_set_ne (by omega), h3 (k + 1) (by omega), Nat.mul_zero, Nat.add_zero] at e2
    rw [Nat.mul_add] at e1
    rw [e2, nvp_succ, Nat.add_mul, pow_succ_mul, ← h5]
    have e3 : W ^ k * (l.getD k 0 * 2 ^ s % 4294967296) + W ^ k * (W * (l.getD k 0 * 2 ^ s / 4294967296)) = W ^ k * l.getD k 0 * 2 ^ s := by
      rw [← Nat.mul_add, Nat.mul_assoc]
      congr 1
      exact Nat.mod_add_div _ _
    omega
  · have := (h6.set_ k (.int .u32 ((o.getD k 0 + l.getD k 0 * 2 ^ s % 4294967296 : Nat) : Int))).set_ (k + 1) (.int .u32 ((l.getD k 0 * 2 ^ s / 4294967296 : Nat) : Int))
    rwa [u32s_set, u32s_set] at this

/-- what shl hands back: a block of its own, known whole -/
def ShlPost (w : World) (l : List Nat) (s n : Nat) (e : Ending) (w' : World) : Prop :=
  e = .returned (.slice (some ⟨w.heap.size, 0, none⟩) (n + 1) (n + 1)) ∧ ∃ o : List Nat, o.length = n + 1 ∧ Dig W o ∧ o.getD n 0 < 2 ^ s ∧ nv W o = nv W l * 2 ^ s ∧
    OwnU w' w.heap.size (some ⟨w.heap.size, 0, none⟩) (n + 1) (n + 1) (u32s o) ∧ Below w.heap.size w w'

set_option maxHeartbeats 1000000 in
theorem shl_any {B : Nat} {A : Option Addr} {l : List Nat} {n c s : Nat} {w : World} (hs : SlU w B A n c l) (hn : n ≤ 67108864) (hB : B ≤ w.heap.size) (h32 : s < 32) :
    Calls Try.prog 88 #[.slice A n c, .int .i64 (s : Int)] w (ShlPost w l s n) := by
  have hmk := fun w => by
    have h := makeU (n + 1) (by omega) w
    rw [show ((n + 1 : Nat) : Int) = (n : Int) + 1 from by omega] at h
    exact h
  have hs0 : (0 : Int) ≤ (s : Int) := by omega
  have hs1 : (s : Int) < 32 := by omega
  have hst := Lib.hid (ShlRel.start w l s n (by simp [maxLen]; omega))
  have hdl := Lib.hid hs.dig
  have hlen := Lib.hid hs.len
  have hn9 : n ≤ 1000000000 := by omega
  clear hn
  go_enter Try.func88, Try.ntmps88
  go_wp2_with fail
  go_loopw [15] (fun i wr => ∃ k : Nat, k ≤ n ∧ i = .int .i64 k ∧ ShlRel w l s n k wr) (fun i _ => n - (intOf i).toNat)
  case atStart => exact ⟨0, Nat.zero_le _, rfl, hst.out⟩
  case round =>
    obtain ⟨k, hk, rfl, hrel⟩ := hrel
    by_cases hkn : k < n
    · obtain ⟨b, off, rfl, hbb, hcell⟩ := hs.at_ (by omega)
      have hbel : Below w.heap.size w wr := by obtain ⟨o, h1, h2, h3, h4, h5, h6, h7⟩ := hrel; exact h7
      have hx := (hbel.cell (p := ⟨b, off + k, none⟩) (Nat.lt_of_lt_of_le hbb hB)).trans (hcell k hkn)
      obtain ⟨d, hd, hcd, hfd, ⟨u, hcu⟩, hfu, hS⟩ := hrel.facts hkn h32 hdl.out
      have hxb : l.getD k 0 < 4294967296 := hdl.out.getD (by decide) k
      obtain ⟨g1, g2, g3, g4⟩ := shl_num h32 hxb hd
      have hmod : (l.getD k 0 * 2 ^ s) % 2 ^ s = 0 := Nat.mul_mod_left _ _
      have hor := or_hi_lo_u32 d (l.getD k 0 * 2 ^ s) (by omega) hd hmod
      have HS := Lib.hid hS
      generalize l.getD k 0 = x at *
      obtain ⟨t, ht⟩ : ∃ t, x * 2 ^ s = t := ⟨_, rfl⟩
      obtain ⟨e, he⟩ : ∃ e, d + x * 2 ^ s % 4294967296 = e := ⟨_, rfl⟩
      rw [he] at HS hor g3
      rw [ht] at HS hor g1 g2
      have hti : IntKind.u64.wrap ((x : Int) * 2 ^ s) = (t : Int) := by
        have : (x : Int) * 2 ^ s = (t : Int) := by rw [← ht]; simp
        rw [this, IntKind.wrap_u64]; omega
      have hk0 : (0 : Int) ≤ (k : Int) := by omega
      have hki : (k : Int) < (n : Int) := by omega
      have hki2 : (k : Int) < (n : Int) + 1 := by omega
      have hP := Lib.hid g2
      have hP4 := Lib.hid g4
      have hg5 : t / 4294967296 < 4294967296 := by omega
      clear ht he hmod hrel hcell hbel hS hd g2 g4 hst
      go_wp2_with fail
      go_roundw
      case rel => exact ⟨k + 1, by omega, by go_num, HS.out⟩
      case measure => simp [intOf]; omega
    · obtain rfl : k = n := by omega
      have HR := Lib.hid hrel
      clear hrel hst
      go_wp2
      go_ret
      obtain ⟨o, h1, h2, h3, h4, h5, h6, h7⟩ := HR.out
      exact ⟨rfl, o, h1, h2, h4, by rw [h5, nvp_all (Nat.le_of_eq hlen.out)], h6, h7⟩
end Go.Proofs.Ytggdmhkdmkldoaa
