import Derived.Test.YtggdmhkdmkldoaaRows
import Derived.Test.YtggdmhkdmkldoaaMem
import Derived.Test.YtggdmhkdmkldoaaLay
import Derived.WalkKit
import Derived.Deep.QuietTactic
import Derived.BigQuiet
import Derived.Deep.RegionHeld3
import Derived.Deep.DrawnRows
namespace Go.Proofs.Ytggdmhkdmkldoaa
open Go.RowKit Hb

theorem ret_eq {v u : Value} (h : v = u) : Ending.returned v = Ending.returned u := by rw [h]
theorem ret_int {k : IntKind} {a b : Int} (h : a = b) : Ending.returned (.int k a) = .returned (.int k b) := by rw [h]
theorem ret_bool {a b : Bool} (h : a = b) : Ending.returned (.bool a) = .returned (.bool b) := by rw [h]

theorem infoU : (Try.prog.info? 48).map (fun i => (i.zero, i.size, i.bytes)) = some (some (.int .u32 0), 1, 4) := by kernel_rfl
theorem infoI : (Try.prog.info? 3).map (fun i => (i.zero, i.size, i.bytes)) = some (some (.int .i64 0), 1, 8) := by kernel_rfl
theorem sizeU : (Try.prog.info? 48).map (·.size) = some 1 := by kernel_rfl
theorem sizeI : (Try.prog.info? 3).map (·.size) = some 1 := by kernel_rfl
abbrev OwnU := Own 48
abbrev OwnI := Own 3
theorem makeU (n : Nat) (hn : n ≤ 4294967296) (w : World) : (Instr.makeSlice 22 (.int .i64 (n : Int)) (.int .i64 (n : Int))).run Try.prog w = .ok (.slice (some ⟨w.heap.size, 0, none⟩) n n) (w.alloc (.cells (madeCells #[.int .u32 0] n) 48)) :=
  run_make_row' 22 48 (.int .u32 0) 4 Try.underlying22 infoU rfl .i64 .i64 n (by omega) (by omega) w
theorem makeI (n : Nat) (hn : n ≤ 4294967296) (w : World) : (Instr.makeSlice 26 (.int .i64 (n : Int)) (.int .i64 (n : Int))).run Try.prog w = .ok (.slice (some ⟨w.heap.size, 0, none⟩) n n) (w.alloc (.cells (madeCells #[.int .i64 0] n) 3)) :=
  run_make_row' 26 3 (.int .i64 0) 8 Try.underlying26 infoI rfl .i64 .i64 n (by omega) (by omega) w

set_option maxHeartbeats 400000 in
theorem trim_any {B : Nat} {A : Option Addr} {l : List Nat} {n c : Nat} {w : World} (hs : SlU w B A n c l) :
    Calls Try.prog 80 #[.slice A n c] w fun e w' => e = .returned (.slice A (tlen l) c) ∧ w = w' := by
  have hm := hs.max
  have hc := hs.cap
  have hlen := hs.len
  unfold maxLen at hm
  have ht := tlen_le l
  have hn1 : n ≤ l.length := by omega
  have hn2 : l.length ≤ n := by omega
  clear hlen
  go_enter Try.func80, Try.ntmps80
  go_wp2
  go_loop [0] (fun s => ∃ k : Nat, k ≤ n ∧ tlen l ≤ k ∧ s = .slice A k c) (fun s => match s with | .slice _ k _ => k | _ => 0)
  case atStart => exact ⟨n, by omega, by omega, rfl⟩
  case round =>
    obtain ⟨k, hk, hkl, rfl⟩ := hrel
    by_cases h0 : k = 0
    · subst h0
      go_wp2
      go_ret
      exact ⟨ret_eq (by rw [show tlen l = 0 by omega]; rfl), rfl⟩
    · obtain ⟨b, o, rfl, _, hcell⟩ := hs.at_ (by omega)
      have hx := hcell (k - 1) (by omega)
      have hk1 : 1 ≤ k := by omega
      have hz1 := tlen_take_last (l := l) (n := k - 1) (by omega)
      have hz2 := fun h => tlen_eq_of (l := l) (n := k) hkl (.inr h)
      generalize l.getD (k - 1) 0 = x at hx hz1 hz2
      clear hcell hs
      by_cases hz : x = 0
      · have hlt := hz1 hz
        subst hz
        clear hz1 hz2
        go_wp2
        go_round
        case rel => exact ⟨k - 1, by omega, by omega, rfl⟩
        case measure => show k - 1 < k; omega
      · have HZ := Lib.hid (hz2 hz)
        have hb : ((x : Int) == 0) = false := beq_eq_false_iff_ne.2 (by omega)
        clear hz1 hz2
        go_wp2
        go_ret
        exact ⟨ret_eq (by rw [HZ.out]; rfl), rfl⟩

/-- a slice of the call's own, with these limbs -/
def FreshU (w : World) (l : List Nat) (e : Ending) (w' : World) : Prop :=
  ∃ A n c, e = .returned (.slice A n c) ∧ OwnU w' w.heap.size A n c (u32s l) ∧ l.length = n ∧ Below w.heap.size w w'

theorem madeU_block (w : World) (n : Nat) : (w.alloc (.cells (madeCells #[Value.int .u32 0] n) 48)).heap[w.heap.size]? = some (.cells (madeCells #[Value.int .u32 0] n).toList.toArray 48 (0, 0)) := by
  rw [Array.toArray_toList]; exact heap_alloc_new w _

set_option maxHeartbeats 400000 in
theorem own_any {B : Nat} {A : Option Addr} {l : List Nat} {n c : Nat} {w : World} (hs : SlU w B A n c l) (hn : n ≤ 4294967296) (hB : B ≤ w.heap.size) :
    Calls Try.prog 79 #[.slice A n c] w (FreshU w l) := by
  have hmk := makeU n hn
  have HC := Lib.hid (show (u32s l).length = Nat.min n n by rw [u32s_length, hs.len]; exact (Nat.min_self n).symm)
  have hlen : (madeCells #[Value.int .u32 0] n).toList.length = n := by simp [size_madeCells]
  have HF := Lib.hid (show 0 + (u32s l).length ≤ (madeCells #[Value.int .u32 0] n).toList.length by rw [hlen, u32s_length, hs.len]; omega)
  have HE := Lib.hid (show splice (madeCells #[Value.int .u32 0] n).toList 0 (u32s l) = u32s l by
    simp only [splice, List.take_zero, List.nil_append, Nat.zero_add]
    rw [List.drop_eq_nil_of_le (by rw [hlen, u32s_length, hs.len]; omega), List.append_nil])
  have hpos : 0 < (u32s l).length → some (⟨w.heap.size, 0, none⟩ : Addr) = some ⟨w.heap.size, 0, none⟩ ∧ ∃ ad, A = some ad ∧ ∀ j v, (u32s l)[j]? = some v → (w.alloc (.cells (madeCells #[Value.int .u32 0] n) 48)).cell? (ad.add j) = some v := by
    intro h
    obtain ⟨b, o, rfl, hb, hc⟩ := hs.rd (List.length_pos_iff.1 h)
    refine ⟨rfl, _, rfl, fun j v hj => ?_⟩
    rw [addr_add, World.cell?_alloc_past _ _ _ (by omega)]
    exact hc j v hj
  have HP := Lib.hid hpos
  have HN := Lib.hid hn
  have HL := Lib.hid (show l.length ≤ maxLen by rw [hs.len]; exact Nat.le_trans hs.cap hs.max)
  clear hpos hn hlen
  go_enter Try.func79, Try.ntmps79
  go_wp2_with (with_reducible refine wpList_copy_splice (o := ⟨some 9, _, _, _, _, _⟩) rfl (.tmp 7) (.tmp 8) 22 22 rfl 48 Try.underlying22 sizeU (some ⟨w.heap.size, 0, none⟩) A n n n c rfl rfl w.heap.size 0 (madeCells #[.int .u32 0] n).toList 48 (madeU_block w n) (u32s l) HC.out HP.out HF.out (u32s_one l) w.heap.size w ((Below.refl _ _).alloc (Nat.le_refl _) _) (Nat.le_refl _) ?_)
  intro w1 hb1 hbel
  rw [HE.out] at hb1
  have hown := Own.of_block (B := w.heap.size) hb1.out (Nat.le_refl _) (by rw [u32s_length]; exact HL.out)
  go_wp2
  go_ret
  rw [u32s_length, hs.len] at hown
  exact ⟨_, _, _, rfl, hown, hs.len, hbel⟩

theorem bitLenAux_blen (f : Nat) : ∀ x : Nat, x < 2 ^ f → Lib.bitLenAux f x = blen x := by
  induction f with
  | zero => intro x h; obtain rfl : x = 0 := by omega
            rw [blen_zero]; rfl
  | succ f ih =>
    intro x h
    unfold Lib.bitLenAux
    by_cases h0 : x = 0
    · subst h0; rw [if_pos rfl, blen_zero]
    · rw [if_neg h0, ih (x / 2) (by rw [Nat.pow_succ] at h; omega), blen, blen, digs_pos (by omega) h0, List.length_cons, Nat.add_comm]
theorem bitLen_blen (x : Nat) (hx : x < 4294967296) : Lib.bitLen x = blen x :=
  bitLenAux_blen 64 x (Nat.lt_trans hx (by decide))
theorem len32_any (x : Nat) (w : World) (hx : x < 4294967296) :
    Calls Try.prog 104 #[.int .u32 (x : Int)] w fun e w' => e = .returned (.int .i64 (blen x)) ∧ w = w' :=
  (Try.bits_Len32 (x : Int) w (by omega) (by omega)).mono fun e w' ⟨he, hw⟩ => ⟨by rw [he, Int.toNat_natCast, bitLen_blen x hx], hw.symm⟩

theorem blen32 {x : Nat} (hx : x < 4294967296) : blen x ≤ 32 := blen_le_iff.2 hx
set_option maxHeartbeats 400000 in
theorem size_any {B : Nat} {A : Option Addr} {l : List Nat} {n c : Nat} {w : World} (hs : SlU w B A n c l) (hn : n ≤ 67108864) :
    Calls Try.prog 75 #[.slice A n c] w fun e w' => e = .returned (.int .i64 (blen (nv W l))) ∧ w = w' := by
  have ht := tlen_le l
  have hlen := hs.len
  have htn : tlen l ≤ 67108864 := by omega
  have hi := trim_any hs
  have HI := Lib.hid hi
  clear hi
  by_cases h0 : tlen l = 0
  · have HZ := Lib.hid (show blen (nv W l) = 0 by rw [(tlen_zero_iff (b := W) (by decide) l).1 h0, blen_zero])
    rw [h0] at HI
    clear hlen ht htn hn h0
    go_enter Try.func75, Try.ntmps75
    go_wp2_with (go_at_call 80; refine HI.out.mono ?_; rintro e w' ⟨rfl, rfl⟩)
    go_ret
    exact ⟨ret_int (by rw [HZ.out]; rfl), rfl⟩
  · have HZ := Lib.hid (blen_limbs hs.dig (by omega))
    obtain ⟨b, o, rfl, _, hcell⟩ := hs.at_ (by omega)
    have hx := hcell (tlen l - 1) (by omega)
    have hd := hs.dig.getD (by decide) (tlen l - 1)
    have hb32 := blen32 hd
    have HB := Lib.hid (len32_any (l.getD (tlen l - 1) 0) w hd)
    generalize l.getD (tlen l - 1) 0 = x at HB HZ hx hd hb32
    generalize hk : tlen l = k at HZ HI hx htn h0
    clear hcell hs hlen ht hn hd hk
    have hk1 : 1 ≤ k := by omega
    have hb : ((k : Int) == 0) = false := beq_eq_false_iff_ne.2 (by omega)
    go_enter Try.func75, Try.ntmps75
    go_wp2_with (first | (go_at_call 80; refine HI.out.mono ?_; rintro e w' ⟨rfl, rfl⟩) | (go_at_call 104; refine HB.out.mono ?_; rintro e w' ⟨rfl, rfl⟩))
    go_ret
    exact ⟨ret_int (by rw [HZ.out]; omega), rfl⟩
end Go.Proofs.Ytggdmhkdmkldoaa
