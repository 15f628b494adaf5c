import Derived.Test.YtggdmhkdmkldoaaUa
namespace Go.Proofs.Ytggdmhkdmkldoaa
open Go.RowKit Hb
set_option linter.unusedVariables false
set_option linter.unusedSimpArgs false

/-! ### the reference's To -/
/-- a number of either sign, as 64 bits -/
def w64 (s : Bool) (v : Nat) : Int := IntKind.i64.wrap (if s then -(v : Int) else v)
theorem w64_range (s : Bool) (v : Nat) : -9223372036854775808 ≤ w64 s v ∧ w64 s v ≤ 9223372036854775807 := by
  unfold w64; rw [IntKind.wrap_i64]; omega
theorem w64_zero (s : Bool) : w64 s 0 = 0 := by
  unfold w64; cases s <;> rfl
theorem w64_step_pos (v b : Nat) : IntKind.i64.wrap (IntKind.i64.wrap (2 * w64 false v) + (b : Int)) = w64 false (b + 2 * v) := by
  unfold w64
  simp only [Bool.false_eq_true, if_false]
  rw [IntKind.wrap_i64, IntKind.wrap_i64, IntKind.wrap_i64, IntKind.wrap_i64]
  omega
theorem w64_step_neg (v b : Nat) : IntKind.i64.wrap (IntKind.i64.wrap (2 * w64 true v) - (b : Int)) = w64 true (b + 2 * v) := by
  unfold w64
  simp only [if_true]
  rw [IntKind.wrap_i64, IntKind.wrap_i64, IntKind.wrap_i64, IntKind.wrap_i64]
  omega
theorem w64_fits {s : Bool} {v : Nat} {z : Int} (hz : z = if s then -(v : Int) else v) (h : -9223372036854775808 ≤ z ∧ z ≤ 9223372036854775807) : w64 s v = z := by
  unfold w64; rw [← hz]; exact IntWalk.i64_in _ h
set_option maxRecDepth 100000 in
set_option maxHeartbeats 4000000 in
theorem rTo_any {x : Int} {B : Nat} {A : Option Addr} {c : Nat} {w : World} (hs : SlI w B A (digs 2 x.natAbs).length c (digs 2 x.natAbs)) (hB : B ≤ w.heap.size) (hn9 : (digs 2 x.natAbs).length ≤ 33554432) :
    Calls Try.prog 41 #[.agg #[.bool (decide (x < 0)), .slice A (digs 2 x.natAbs).length c]] w (ToPost w x) := by
  have hl := hs.len
  have hxz : x = if decide (x < 0) then -((nv 2 (digs 2 x.natAbs) : Nat) : Int) else ((nv 2 (digs 2 x.natAbs) : Nat) : Int) := by
    rw [nv_digs (by decide)]
    by_cases h : x < 0
    · rw [decide_eq_true h, if_pos rfl]; omega
    · rw [decide_eq_false h, if_neg (by simp)]; omega
  have HXZ := Lib.hid hxz
  have HD := Lib.hid hs.dig
  have HB := Lib.hid ((Below.refl w.heap.size w).alloc (Nat.le_refl _) (.cells #[.bool (decide (x < 0)), .slice A (digs 2 x.natAbs).length c] 28))
  have HX := Lib.hid (show (w.alloc (.cells #[.bool (decide (x < 0)), .slice A (digs 2 x.natAbs).length c] 28)).heap[w.heap.size]? = some (.cells #[.bool (decide (x < 0)), .slice A (digs 2 x.natAbs).length c] 28 (0, 0)) from heap_alloc_new w _)
  have HS := Lib.hid (fun w1 (hb : Below w.heap.size w w1) => hs.below (C := w.heap.size) hb hB)
  have HCm := Lib.hid (fun (k : Int) (A2 : Option Addr) (c2 : Nat) (w1 : World) (hb : Below w.heap.size w w1) (ht : SlI w1 w1.heap.size A2 (digs 2 k.natAbs).length c2 (digs 2 k.natAbs)) (hk : (digs 2 k.natAbs).length ≤ 33554432) (q : Int) (hq : cmpZ k x = q) =>
    rcmp_any ht (hs.below (C := w.heap.size) hb hB) (Nat.le_refl _) (Nat.le_trans hB hb.size) hk hn9 hq)
  have hsz : w.heap.size < (w.alloc (.cells #[.bool (decide (x < 0)), .slice A (digs 2 x.natAbs).length c] 28)).heap.size := by simp
  have hbig : 64 < (digs 2 x.natAbs).length → ¬ (-9223372036854775808 ≤ x ∧ x ≤ 9223372036854775807) := fun h h2 => by
    have h3 : (digs 2 x.natAbs).length ≤ 64 := digs_length_le (by decide) (by have : (2 : Nat) ^ 64 = 18446744073709551616 := by decide
                                                                              omega)
    omega
  have HN9 := Lib.hid hn9
  clear hs hB hn9 hxz
  by_cases h64 : 64 < (digs 2 x.natAbs).length
  · have HT := Lib.hid (toV_no (hbig h64))
    have h64I : (64 : Int) < ((digs 2 x.natAbs).length : Int) := by omega
    clear hbig hl
    generalize (digs 2 x.natAbs).length = n at *
    generalize decide (x < 0) = s at *
    go_enter Try.func41, Try.ntmps41
    go_wp2
    exact bodyPost_ret (v := .tuple #[.int .i64 0, .bool false]) (by simp [results, Try.results41, go_sem]) rfl (ToPost.mk HT.out.2 HT.out.1 HB.out)
  · have h64I : ¬ (64 : Int) < ((digs 2 x.natAbs).length : Int) := by omega
    clear hbig
    clear hl
    generalize digs 2 x.natAbs = l at *
    generalize hn : l.length = n at *
    generalize decide (x < 0) = s at *
    have HLN := Lib.hid (And.intro hn True.intro)
    have HXs := HXZ
    have HDl := HD
    have HBs := HB
    have HXb := HX
    have HSl := HS
    have hsz2 := hsz
    have HCk := HCm
    clear HXZ HD HB HX HS HCm hsz HN9 hn
    go_enter Try.func41, Try.ntmps41
    go_upto_region 1 with fail
    obtain ⟨a0, a1, _, _⟩ := two_cells (C := (w.alloc (.cells #[.bool s, .slice A n c] 28)).heap.size) (Below.refl _ _) HXb.out hsz2
    generalize (w.alloc (.cells #[.bool s, .slice A n c] 28)) = W0 at *
    have HW0 := Lib.hid (w64_zero s)
    go_wp2_with fail
    go_loop [4, 5] (fun nv9 iv => ∃ (t : Nat) (N : Int), t ≤ n ∧ iv = .int .i64 ((t : Int) - 1) ∧ nv9 = .int .i64 N ∧ -9223372036854775808 ≤ N ∧ N ≤ 9223372036854775807 ∧ Hid (N = w64 s (nv 2 (l.drop t)))) (fun _ iv => (intOf iv + 1).toNat)
    case atStart => exact ⟨n, 0, Nat.le_refl _, by first | rfl | simp, rfl, by decide, by decide, Lib.hid (by rw [List.drop_eq_nil_of_le (by rw [HLN.out.1]; exact Nat.le_refl _)]; exact HW0.out.symm)⟩
    case round =>
      obtain ⟨t, N, htn, rfl, rfl, hN1, hN2, HN⟩ := hrel
      by_cases ht0 : t = 0
      · subst ht0
        have HNz := Lib.hid (show N = w64 s (nv 2 l) by have := HN.out; rwa [List.drop_zero] at this)
        obtain ⟨q, hq⟩ : ∃ q, cmpZ N x = q := ⟨_, rfl⟩
        have HQ := Lib.hid hq
        have HlN := Lib.hid (show (digs 2 N.natAbs).length ≤ 33554432 from Nat.le_trans (digs_length_le (b := 2) (k := 64) (by decide) (by have : (2 : Nat) ^ 64 = 18446744073709551616 := by decide
                                                                                                                                           omega)) (by decide))
        have HRes := Lib.hid (show (q = 0 ∧ toV x = N ∧ toB x = true) ∨ (q ≠ 0 ∧ toV x = 0 ∧ toB x = false) by
          by_cases hf : -9223372036854775808 ≤ x ∧ x ≤ 9223372036854775807
          · left
            have e : N = x := by rw [HNz.out]; exact w64_fits HXs.out hf
            exact ⟨by rw [← hq, e]; exact cmpZ_zero.2 rfl, by rw [(toV_ok hf).2, e], (toV_ok hf).1⟩
          · right
            exact ⟨fun h => hf (by have := cmpZ_zero.1 (hq.trans h); omega), (toV_no hf).2, (toV_no hf).1⟩)
        clear hq
        go_wp2_with fail
        (refine (Small_any N ⟨hN1, hN2⟩ _).mono ?_)
        rintro ex w4 ⟨v4, rfl, ⟨A4, c4, rfl, ho4⟩, hb4⟩
        have hz4 := hb4.size
        have HO := Lib.hid (show OwnI (w4.alloc (.cells #[.bool (decide (N < 0)), .slice A4 (digs 2 N.natAbs).length c4] 28)) W0.heap.size A4 (digs 2 N.natAbs).length c4 (i64s (digs 2 N.natAbs)) from Own.alloc ho4 _)
        have hv6 : (w4.alloc (.cells #[.bool (decide (N < 0)), .slice A4 (digs 2 N.natAbs).length c4] 28)).heap[w4.heap.size]? = some (.cells #[.bool (decide (N < 0)), .slice A4 (digs 2 N.natAbs).length c4] 28 (0, 0)) := heap_alloc_new w4 _
        have K5 := Lib.hid (hb4.alloc hz4 (.cells #[.bool (decide (N < 0)), .slice A4 (digs 2 N.natAbs).length c4] 28))
        clear ho4 hb4 a0 a1
        go_upto_region 11 with fail
        generalize (w4.alloc (.cells #[.bool (decide (N < 0)), .slice A4 (digs 2 N.natAbs).length c4] 28)) = w5 at *
        obtain ⟨a0, a1, _, _⟩ := two_cells K5.out HXb.out hsz2
        obtain ⟨b0, b1, _, _⟩ := two_cells (C := w5.heap.size) (Below.refl _ _) hv6 (Array.getElem?_eq_some_iff.1 hv6).1
        have K6 := Lib.hid (HBs.out.trans (K5.out.mono HBs.out.size))
        go_wp2_with fail
        (refine (HCk.out N A4 c4 _ K6.out (bits_sl HO.out) HlN.out q HQ.out).mono ?_)
        rintro ex w6 ⟨rfl, hb6⟩
        have K7 := Lib.hid (K6.out.trans (hb6.mono K6.out.size))
        clear hb6 a0 a1 b0 b1
        rcases HRes.out with ⟨rfl, e1, e2⟩ | ⟨hq0, e1, e2⟩
        · have E1 := Lib.hid e1
          have E2 := Lib.hid e2
          clear e1 e2
          go_wp2
          exact bodyPost_ret (v := .tuple #[.int .i64 N, .bool true]) (by simp [results, Try.results41, go_sem]) rfl (ToPost.mk E1.out E2.out K7.out)
        · have hqb : (q == 0) = false := beq_eq_false_iff_ne.2 hq0
          have E1 := Lib.hid e1
          have E2 := Lib.hid e2
          clear e1 e2
          go_wp2
          exact bodyPost_ret (v := .tuple #[.int .i64 0, .bool false]) (by simp [results, Try.results41, go_sem]) rfl (ToPost.mk E1.out E2.out K7.out)
      · obtain ⟨i, rfl⟩ : ∃ i, t = i + 1 := ⟨t - 1, by omega⟩
        have his : ((i + 1 : Nat) : Int) - 1 = (i : Int) := by omega
        rw [his]
        have hi0 : (0 : Int) ≤ (i : Int) := by omega
        have hin : (i : Int) < (n : Int) := by omega
        obtain ⟨b, off, rfl, _, hc⟩ := SlI.at_ (HSl.out W0 HBs.out) (by omega)
        have hx := hc i (by omega)
        have hv := drop_nv 2 l (k := i) (by rw [HLN.out.1]; omega)
        have hNv := HN.out
        generalize l.getD i 0 = y at *
        obtain ⟨v, hv9⟩ : ∃ v, nv 2 (l.drop (i + 1)) = v := ⟨_, rfl⟩
        rw [hv9] at hv hNv
        obtain ⟨M, hM⟩ : ∃ M, IntKind.i64.wrap (2 * N) = M := ⟨_, rfl⟩
        obtain ⟨N', hN'⟩ : ∃ N', w64 s (y + 2 * v) = N' := ⟨_, rfl⟩
        have hr := w64_range s (y + 2 * v)
        rw [hN'] at hr
        have HR := Lib.hid (show N' = w64 s (nv 2 (l.drop i)) by rw [hv, hN'])
        cases s
        · have hw2 : IntKind.i64.wrap (M + (y : Int)) = N' := by rw [← hM, ← hN', hNv]; exact w64_step_pos v y
          clear hc hv hv9 hN' hNv HN
          go_wp2_with fail
          go_round
          case rel => exact ⟨i, N', by omega, by go_num, rfl, hr.1, hr.2, HR⟩
          case measure => first | (simp [intOf]; done) | (simp [intOf]; omega)
        · have hw2 : IntKind.i64.wrap (M - (y : Int)) = N' := by rw [← hM, ← hN', hNv]; exact w64_step_neg v y
          clear hc hv hv9 hN' hNv HN
          go_wp2_with fail
          go_round
          case rel => exact ⟨i, N', by omega, by go_num, rfl, hr.1, hr.2, HR⟩
          case measure => first | (simp [intOf]; done) | (simp [intOf]; omega)
end Go.Proofs.Ytggdmhkdmkldoaa
