import Derived.Test.YtggdmhkdmkldoaaBe
namespace Go.Proofs.Ytggdmhkdmkldoaa
open Go.RowKit Hb

theorem ret_tup {a b c d : Value} (h1 : a = c) (h2 : b = d) : Ending.returned (.tuple #[a, b]) = .returned (.tuple #[c, d]) := by rw [h1, h2]
theorem int_eq {k : IntKind} {a b : Int} (h : a = b) : Value.int k a = Value.int k b := by rw [h]

def brw (x y c : Nat) : Nat := if x < y + c then 1 else 0
theorem brw_spec (x y c : Nat) : (x < y + c ∧ brw x y c = 1) ∨ (y + c ≤ x ∧ brw x y c = 0) := by
  unfold brw; split
  · exact .inl ⟨by assumption, rfl⟩
  · exact .inr ⟨by omega, rfl⟩

theorem u32_bv (a : Int) (h0 : 0 ≤ a) (h1 : a < 4294967296) : (BitVec.ofInt 32 a).toNat = a.toNat := by
  obtain ⟨n, rfl⟩ := Int.eq_ofNat_of_zero_le h0
  rw [BitVec.ofInt_natCast, BitVec.toNat_ofNat]
  simp; omega
theorem bits_u32 (op : BinOp) (a b : Int) (h : op = .and ∨ op = .or ∨ op = .xor) : 0 ≤ bits op .u32 a b ∧ bits op .u32 a b < 4294967296 := by
  rcases h with rfl | rfl | rfl
  all_goals
    show 0 ≤ IntKind.u32.wrap _ ∧ IntKind.u32.wrap _ < 4294967296
    rw [IntKind.wrap_u32]; omega
theorem bv_bits_and (a b : Int) : BitVec.ofInt 32 (bits .and .u32 a b) = BitVec.ofInt 32 a &&& BitVec.ofInt 32 b := by
  apply BitVec.eq_of_toNat_eq
  obtain ⟨h0, h1⟩ := bits_u32 .and a b (by simp)
  rw [u32_bv _ h0 h1]
  have h2 := (BitVec.ofInt 32 a &&& BitVec.ofInt 32 b).isLt
  show (IntKind.u32.wrap ((BitVec.ofInt 32 a &&& BitVec.ofInt 32 b).toNat : Int)).toNat = _
  rw [IntKind.wrap_u32]; omega
theorem bv_bits_or (a b : Int) : BitVec.ofInt 32 (bits .or .u32 a b) = BitVec.ofInt 32 a ||| BitVec.ofInt 32 b := by
  apply BitVec.eq_of_toNat_eq
  obtain ⟨h0, h1⟩ := bits_u32 .or a b (by simp)
  rw [u32_bv _ h0 h1]
  have h2 := (BitVec.ofInt 32 a ||| BitVec.ofInt 32 b).isLt
  show (IntKind.u32.wrap ((BitVec.ofInt 32 a ||| BitVec.ofInt 32 b).toNat : Int)).toNat = _
  rw [IntKind.wrap_u32]; omega
theorem bv_bits_xor (a b : Int) : BitVec.ofInt 32 (bits .xor .u32 a b) = BitVec.ofInt 32 a ^^^ BitVec.ofInt 32 b := by
  apply BitVec.eq_of_toNat_eq
  obtain ⟨h0, h1⟩ := bits_u32 .xor a b (by simp)
  rw [u32_bv _ h0 h1]
  have h2 := (BitVec.ofInt 32 a ^^^ BitVec.ofInt 32 b).isLt
  show (IntKind.u32.wrap ((BitVec.ofInt 32 a ^^^ BitVec.ofInt 32 b).toNat : Int)).toNat = _
  rw [IntKind.wrap_u32]; omega
theorem u32_msb (a : Int) (h0 : 0 ≤ a) (h1 : a < 4294967296) : (BitVec.ofInt 32 a).msb = decide (2147483648 ≤ a) := by
  rw [BitVec.msb_eq_decide, u32_bv a h0 h1]
  exact decide_eq_decide.2 (by omega)
theorem sub32_carry (x y c : Nat) (hx : x < 4294967296) (hy : y < 4294967296) (hc : c ≤ 1) :
    bits .or .u32 (bits .and .u32 (bits .xor .u32 IntKind.u32.max x) y) (bits .and .u32 (bits .xor .u32 IntKind.u32.max (bits .xor .u32 x y)) (((x : Int) - y - c) % 4294967296)) / 2147483648 = (brw x y c : Int) := by
  obtain ⟨h0, h1⟩ := bits_u32 .or (bits .and .u32 (bits .xor .u32 IntKind.u32.max x) y) (bits .and .u32 (bits .xor .u32 IntKind.u32.max (bits .xor .u32 x y)) (((x : Int) - y - c) % 4294967296)) (by simp)
  have hm := u32_msb _ h0 h1
  rw [bv_bits_or, bv_bits_and, bv_bits_and, bv_bits_xor, bv_bits_xor, bv_bits_xor, BitVec.msb_or, BitVec.msb_and, BitVec.msb_and, BitVec.msb_xor, BitVec.msb_xor, BitVec.msb_xor,
    u32_msb x (by omega) (by omega), u32_msb y (by omega) (by omega), u32_msb (((x : Int) - y - c) % 4294967296) (by omega) (by omega), show (BitVec.ofInt 32 IntKind.u32.max).msb = true by decide] at hm
  generalize bits .or .u32 (bits .and .u32 (bits .xor .u32 IntKind.u32.max x) y) (bits .and .u32 (bits .xor .u32 IntKind.u32.max (bits .xor .u32 x y)) (((x : Int) - y - c) % 4294967296)) = r at *
  rcases brw_spec x y c with ⟨hb, e⟩ | ⟨hb, e⟩
  all_goals
    rw [e]
    by_cases g1 : (2147483648 : Int) ≤ x <;> by_cases g2 : (2147483648 : Int) ≤ y <;> by_cases g3 : (2147483648 : Int) ≤ ((x : Int) - y - c) % 4294967296
    all_goals
      simp [g1, g2, g3] at hm
      omega

set_option maxHeartbeats 1000000 in
theorem add32_any (x y c : Nat) (w : World) (hx : x < 4294967296) (hy : y < 4294967296) (hc : c ≤ 1) :
    Calls Try.prog 106 #[.int .u32 (x : Int), .int .u32 (y : Int), .int .u32 (c : Int)] w fun e w' => e = .returned (.tuple #[.int .u32 ((x + y + c) % 4294967296 : Nat), .int .u32 ((x + y + c) / 4294967296 : Nat)]) ∧ w = w' := by
  go_enter Try.func106, Try.ntmps106
  go_wp2
  go_ret2
  exact ⟨ret_tup (int_eq (by omega)) (int_eq (by omega)), rfl⟩
set_option maxHeartbeats 1000000 in
theorem sub32_any (x y c : Nat) (w : World) (hx : x < 4294967296) (hy : y < 4294967296) (hc : c ≤ 1) :
    Calls Try.prog 110 #[.int .u32 (x : Int), .int .u32 (y : Int), .int .u32 (c : Int)] w fun e w' => e = .returned (.tuple #[.int .u32 ((x + 4294967296 - y - c) % 4294967296 : Nat), .int .u32 (brw x y c : Nat)]) ∧ w = w' := by
  have HS := Lib.hid (sub32_carry x y c hx hy hc)
  go_enter Try.func110, Try.ntmps110
  go_wp2
  go_ret2
  exact ⟨ret_tup (int_eq (by omega)) (int_eq HS.out), rfl⟩
end Go.Proofs.Ytggdmhkdmkldoaa
