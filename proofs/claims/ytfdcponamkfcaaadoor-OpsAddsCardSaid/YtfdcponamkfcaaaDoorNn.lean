import Derived.Test.YtfdcponamkfcaaaDoorNm
namespace Go.Proofs.YtfdcponamkfcaaaDoor
open Go.RowKit Ho Go.Maps Go.Shelf Go.Sort Hb
set_option linter.unusedVariables false
set_option linter.unusedSimpArgs false
/-! ### OpsAdds -/
set_option maxRecDepth 100000 in
set_option maxHeartbeats 8000000 in
theorem Adds_walk {w : World} (hT : Tab w) (h2 : 2 ≤ w.heap.size) {A : Option Addr} {n c : Nat} {ls : List OpV} (hA : ArgO w w.heap.size A n c ls) (hn : n ≤ 4398046511000) (x : OpV) (hx : x.n.length ≤ maxLen) :
    Calls Tryd.prog 4 #[.slice A n c, opV x] w (AwakePost w) := by
  obtain ⟨xn, xt, xp, hxn, hxt, hxp, hX⟩ := opV_lit x
  have hb0 : Below w.heap.size w (w.alloc (.cells #[.string xn, .int .i64 xt, .int .i64 xp] 23)) := (Below.refl _ _).alloc (Nat.le_refl _) _
  have HB0 := Lib.hid hb0
  have HBX := Lib.hid (show BoxO (w.alloc (.cells #[.string xn, .int .i64 xt, .int .i64 xp] 23)) w.heap.size x by
    have := World.alloc_heap_new w (.cells #[.string xn, .int .i64 xt, .int .i64 xp] 23)
    unfold BoxO encO
    rw [hxn, hxt, hxp]
    exact this)
  have HT := Lib.hid (fun w1 (hb : Below w.heap.size w w1) => And.intro (hT.below hb h2) (Nat.le_trans h2 hb.size))
  have HA := Lib.hid (fun w1 (hb : Below w.heap.size w w1) => show ArgO w1 w1.heap.size A n c ls from ⟨hA.len, hA.cap, hA.max, (hA.rd.below hb (Nat.le_refl _)).mono hb.size, hA.nm⟩)
  have HXN := Lib.hid (And.intro hx (And.intro hxn (And.intro hxt hxp)))
  have HLS := Lib.hid hA.len
  obtain ⟨L, hL⟩ : ∃ L, fill L0 ls = L := ⟨_, rfl⟩
  have HI := Lib.hid (show Inv L by rw [← hL]; exact inv_fill inv_L0 ls)
  have HLn := Lib.hid (show L.length ≤ 100 + n by rw [← hL, ← hA.len]; have := fill_len L0 ls; have := L0_len; omega)
  have HR := Lib.hid rows_len
  have HL := Lib.hid hL
  rw [hX]
  clear hT h2 hA hb0 hx hxn hxt hxp hX hL
  go_enter Tryd.func4, Tryd.ntmps4
  go_wp2_with fail
  (with_reducible refine (awake_any (HT.out _ HB0.out).1 (HT.out _ HB0.out).2).mono ?_)
  rintro ex w1 ⟨rfl, hb1⟩
  have HBX1 := Lib.hid (show BoxO w1 w.heap.size x from (hb1.block _ HBX.out.lt).trans HBX.out)
  have HB1 := Lib.hid (HB0.out.trans (hb1.mono HB0.out.size))
  clear hb1
  go_wp2_with fail
  (with_reducible refine (filled_any (HT.out _ HB1.out).1 (HT.out _ HB1.out).2 (HA.out _ HB1.out) (by omega)).mono ?_)
  rintro ex w2 ⟨rfl, ht2, hb2⟩
  rw [HL.out] at ht2
  have HT2 := Lib.hid ht2
  have HBX2 := Lib.hid (show BoxO w2 w.heap.size x from (hb2.block _ HBX1.out.lt).trans HBX1.out)
  have HB2 := Lib.hid (HB1.out.trans (hb2.mono HB1.out.size))
  have HZ1 := Lib.hid HB1.out.size
  clear hb2 ht2
  generalize w1.heap.size = g at *
  go_wp2_with fail
  have hNN : (rowsO 14).length + n + 1 ≤ 4398046511101 := by have := HR.out; omega
  (with_reducible refine (alls_any sort_ok HT2.out (good_of HI.out) (by have := HLn.out; omega)).mono ?_)
  rintro ex w3 ⟨gA, cA, rfl, hrow3, hb3⟩
  have h3 := row_of_owns hrow3
  have HR3 := Lib.hid h3
  have HC3 := Lib.hid (owns_cap hrow3)
  have HT3 := Lib.hid (HT2.out.below' hb3)
  have HBX3 := Lib.hid (show BoxO w3 w.heap.size x from (hb3.block _ HBX2.out.lt).trans HBX2.out)
  have HB3 := Lib.hid (HB2.out.trans (hb3.mono HB2.out.size))
  clear hb3 h3 hrow3
  have q0 := HBX3.out.cells
  rw [HXN.out.2.1, HXN.out.2.2.1, HXN.out.2.2.2] at q0
  obtain ⟨q0, q1, q2⟩ := q0
  have hcap3 := HC3.out
  go_wp2_with fail
  have HAdd := Lib.hid (show Calls Tryd.prog 17 #[.pointer (some ⟨g, 0, none⟩), .int .i64 xp, .int .i64 xt, .string xn] w3 (AddPost w3 g (g + 1) (g + 1 + 1) (g + 1 + 1 + 1) ((rowsO 14).length + n) L (Ho.add L x.p x.t x.n) (code L x.p x.t x.n)) from by
    rw [← HXN.out.2.1, ← HXN.out.2.2.1, ← HXN.out.2.2.2]
    exact Add_any HT3.out (p := x.p) (k := x.t) (s := ⟨x.n.toArray⟩) (show x.n.toArray.size ≤ maxLen by rw [List.size_toArray]; exact HXN.out.1) (by unfold maxLen; omega))
  (with_reducible refine HAdd.out.mono ?_)
  intro ex w4 h4
  have HT4 := Lib.hid h4.2.1
  have HBX4 := Lib.hid (show BoxO w4 w.heap.size x from h4.cells HT3.out HBX3.out)
  have HRA4 := Lib.hid (show RowO w4 gA (srt L) from by
    obtain ⟨cs, hcs⟩ := HR3.out.2.2.2
    exact HR3.out.1.same ((h4.cells HT3.out hcs).trans hcs.symm))
  have HB4 := Lib.hid (h4.below HB3.out ⟨by have := HZ1.out; omega, by have := HZ1.out; omega, by have := HZ1.out; omega⟩)
  obtain ⟨rfl, h4'⟩ := h4
  clear h4'
  clear q0 q1 q2
  obtain ⟨L', hL'⟩ : ∃ M, Ho.add L x.p x.t x.n = M := ⟨_, rfl⟩
  obtain ⟨co, hco⟩ : ∃ z, code L x.p x.t x.n = z := ⟨_, rfl⟩
  have HI' := Lib.hid (show Inv L' by rw [← hL']; exact HI.out.add _ _ _)
  have HLn' := Lib.hid (show L'.length ≤ 101 + n by rw [← hL']; have := add_len L x.p x.t x.n; have := HLn.out; omega)
  have HLAW := Lib.hid (adds_law HI.out x)
  rw [hL'] at HT4 HLAW
  rw [hco] at HLAW ⊢
  clear HAdd hL' hco
  go_wp2_with fail
  (with_reducible refine (alls_any sort_ok HT4.out (good_of HI'.out) (by have := HLn'.out; omega)).mono ?_)
  rintro ex w5 ⟨gB, cB, rfl, hrow5, hb5⟩
  have HR5 := Lib.hid (row_of_owns hrow5)
  have HC5 := Lib.hid (owns_cap hrow5)
  have HBX5 := Lib.hid (show BoxO w5 w.heap.size x from (hb5.block _ HBX4.out.lt).trans HBX4.out)
  have HRA5 := Lib.hid (HRA4.out.same (hb5.block _ HRA4.out.lt))
  have HB5 := Lib.hid (HB4.out.trans (hb5.mono HB4.out.size))
  clear hb5 hrow5
  clear HBX HBX1 HBX2 HBX3 HBX4 HT2 HT3 HT4 HR3 HRA4 HB0 HB1 HB2 HB3 HB4 HA
  have hcap5 := HC5.out
  obtain ⟨was, hwas⟩ : ∃ l, srt L = l := ⟨_, rfl⟩
  obtain ⟨now, hnow⟩ : ∃ l, srt L' = l := ⟨_, rfl⟩
  have HND := Lib.hid (show was.Nodup by rw [← hwas]; exact (srt_perm L).nodup_iff.2 HI.out.uq.nodup)
  have hkA : was.length = L.length := by rw [← hwas]; exact (srt_perm L).length_eq
  have hkB : now.length = L'.length := by rw [← hnow]; exact (srt_perm L').length_eq
  obtain ⟨kA, hkA'⟩ : ∃ k, L.length = k := ⟨_, rfl⟩
  obtain ⟨kB, hkB'⟩ : ∃ k, L'.length = k := ⟨_, rfl⟩
  rw [hkA'] at hkA hcap3 HLn ⊢
  rw [hkB'] at hkB hcap5 HLn' ⊢
  rw [hwas] at HRA5 HLAW
  rw [hnow] at HR5 HLAW
  have HK := Lib.hid (And.intro hkA hkB)
  have hAI : (kA : Int) ≤ 4398046511101 := by have := HLn.out; omega
  have hBI : (kB : Int) ≤ 4398046511101 := by have := HLn'.out; omega
  clear hkA hkB hkA' hkB' hwas hnow hn hNN
  go_wp2_with fail
  go_loopw [10, 11, 12] (fun v10 v11 v12 wr => ∃ (i p q : Nat), v12 = .int .i64 (i : Int) ∧ v10 = .int .i64 (p : Int) ∧ v11 = .int .i64 (q : Int) ∧ i ≤ kB ∧ Hid (p = cnt x (now.take i) ∧ q = pairs (now.take i) was ∧ Dr w5 wr))
    (fun v10 v11 v12 wr => ((kB : Int) - intOf v12).toNat)
  case atStart => exact ⟨0, 0, 0, rfl, rfl, rfl, Nat.zero_le _, Lib.hid ⟨rfl, rfl, Dr.refl _⟩⟩
  case round =>
    obtain ⟨i, p, q, rfl, rfl, rfl, hi, HP⟩ := hrel
    by_cases hlt : i < kB
    · have hltI : (i : Int) < (kB : Int) := by omega
      have hi0 : (0 : Int) ≤ (i : Int) := by omega
      have hil : i < now.length := by rw [HK.out.2]; exact hlt
      obtain ⟨y, hy⟩ : ∃ y, now[i] = y := ⟨_, rfl⟩
      obtain ⟨q0, q1, q2⟩ := (HR5.out.1.dr HP.out.2.2).at_ hil
      obtain ⟨x0, x1, x2⟩ := (HBX5.out.dr HP.out.2.2).cells
      rw [HXN.out.2.1] at x0
      rw [HXN.out.2.2.1] at x1
      rw [HXN.out.2.2.2] at x2
      rw [hy] at q0 q1 q2
      obtain ⟨yn, yt, yp, hyn, hyt, hyp, hY⟩ := opV_lit y
      rw [hyn] at q0
      rw [hyt] at q1
      rw [hyp] at q2
      obtain ⟨d, hd⟩ : ∃ d, decide (y = x) = d := ⟨_, rfl⟩
      have heq : ∀ w1, (binOp .eql 23 (.agg #[.string yn, .int .i64 yt, .int .i64 yp]) (.agg #[.string xn, .int .i64 xt, .int .i64 xp])).run Tryd.prog w1 = .ok (.bool d) w1 := fun w1 => by
        have := eqO y x w1
        rw [hY, opV, HXN.out.2.1, HXN.out.2.2.1, HXN.out.2.2.2, hd] at this
        exact this
      have htk : now.take (i + 1) = now.take i ++ [y] := by rw [List.take_succ_eq_append_getElem hil, hy]
      have hpb : p ≤ kB := by
        rw [HP.out.1, ← HK.out.2]
        exact Nat.le_trans (cnt_le _ _) (List.length_take_le' _ _)
      have hpI : (p : Int) ≤ 4398046511101 := by omega
      have HN1 := Lib.hid (show cnt x (now.take (i + 1)) = p + (if d then 1 else 0) by rw [htk, cnt_snoc, ← HP.out.1, ← hd]; by_cases e : y = x <;> simp [e])
      have HN2 := Lib.hid (show pairs (now.take (i + 1)) was = q + cnt y was by rw [htk, pairs_snoc, ← HP.out.2.1])
      have hqb : q ≤ kB := by
        rw [HP.out.2.1, ← HK.out.2]
        exact Nat.le_trans (pairs_le_one HND.out _ (cnt_le_one HND.out)) (List.length_take_le' _ _)
      have hqI : (q : Int) ≤ 4398046511101 := by omega
      have HY := Lib.hid (And.intro hY (And.intro hyn (And.intro hyt hyp)))
      have HLT := Lib.hid hlt
      have HIL := Lib.hid (show now[i]? = some y by rw [← hy]; exact List.getElem?_eq_getElem hil)
      clear hY hyn hyt hyp hd htk hpb hqb hlt hi hil hy
      go_upto_region 13 with fail
      go_quiet (fail)
      obtain ⟨w6, hw6⟩ : ∃ w6, wr.drewN nq = w6 := ⟨_, rfl⟩
      have HD6 := Lib.hid (show Dr w5 w6 by rw [← hw6]; exact HP.out.2.2.more nq)
      rw [hw6]
      clear hw6
      obtain ⟨p', hp'⟩ : ∃ p' : Nat, p + (if d = true then 1 else 0) = p' := ⟨_, rfl⟩
      rw [hp'] at HN1
      clear q0 q1 q2 x0 x1 x2 heq
      cases d
      all_goals (try simp only [if_true, Bool.false_eq_true, if_false, Nat.add_zero] at hp')
      · subst hp'
        go_wp2_with fail
        go_loopw [11, 13] (fun v11 v13 wz => ∃ (j r : Nat), v13 = .int .i64 (j : Int) ∧ v11 = .int .i64 (r : Int) ∧ j ≤ kA ∧ Hid (r = q + cnt y (was.take j) ∧ Dr w5 wz))
          (fun v11 v13 wz => ((kA : Int) - intOf v13).toNat)
        case atStart => exact ⟨0, q, rfl, rfl, Nat.zero_le _, Lib.hid ⟨rfl, HD6.out⟩⟩
        case round =>
          obtain ⟨j, r, rfl, rfl, hj, HQ⟩ := hrel
          by_cases hjt : j < kA
          · have hjI : (j : Int) < (kA : Int) := by omega
            have hj0 : (0 : Int) ≤ (j : Int) := by omega
            have hjl : j < was.length := by rw [HK.out.1]; exact hjt
            obtain ⟨z, hz⟩ : ∃ z, was[j] = z := ⟨_, rfl⟩
            obtain ⟨z0, z1, z2⟩ := (HRA5.out.dr HQ.out.2).at_ hjl
            have hil : i < now.length := by rw [HK.out.2]; exact HLT.out
            obtain ⟨q0, q1, q2⟩ := (HR5.out.1.dr HQ.out.2).at_ hil
            have hyy : now[i] = y := by have := HIL.out; rw [List.getElem?_eq_getElem hil] at this; exact Option.some.inj this
            rw [hyy, HY.out.2.1] at q0
            rw [hyy, HY.out.2.2.1] at q1
            rw [hyy, HY.out.2.2.2] at q2
            rw [hz] at z0 z1 z2
            obtain ⟨zn, zt, zp, hzn, hzt, hzp, hZ⟩ := opV_lit z
            rw [hzn] at z0
            rw [hzt] at z1
            rw [hzp] at z2
            obtain ⟨e, he⟩ : ∃ e, decide (z = y) = e := ⟨_, rfl⟩
            have heq : ∀ w1, (binOp .eql 23 (.agg #[.string yn, .int .i64 yt, .int .i64 yp]) (.agg #[.string zn, .int .i64 zt, .int .i64 zp])).run Tryd.prog w1 = .ok (.bool e) w1 := fun w1 => by
              have h9 := eqO y z w1
              rw [HY.out.1, hZ] at h9
              rw [h9, ← he]
              congr 2
              exact decide_eq_decide.2 ⟨fun h => h.symm, fun h => h.symm⟩
            have htk2 : was.take (j + 1) = was.take j ++ [z] := by rw [List.take_succ_eq_append_getElem hjl, hz]
            have hrb : r ≤ q + kA := by
              rw [HQ.out.1, ← HK.out.1]
              exact Nat.add_le_add_left (Nat.le_trans (cnt_le _ _) (List.length_take_le' _ _)) _
            have hrI : (r : Int) ≤ 8796093022202 := by omega
            have HJ1 := Lib.hid (show q + cnt y (was.take (j + 1)) = r + (if e then 1 else 0) by rw [htk2, cnt_snoc, HQ.out.1, ← he]; by_cases e9 : z = y <;> simp [e9]; omega)
            have HJT := Lib.hid hjt
            have hi0 : (0 : Int) ≤ (i : Int) := by omega
            clear hjl hil hyy hz hzn hzt hzp hZ htk2 hrb hjt hj he
            go_upto_region 18 with fail
            go_quiet (fail)
            have HD7 := Lib.hid (HQ.out.2.more nq)
            clear q0 q1 q2 z0 z1 z2 heq
            cases e
            · go_wp2
              go_roundw
              case rel => exact ⟨j + 1, r, rfl, rfl, HJT.out, Lib.hid ⟨HJ1.out.symm, HD7.out⟩⟩
              case measure =>
                have := HJT.out
                show ((kA : Int) - ((j : Int) + 1)).toNat < ((kA : Int) - (j : Int)).toNat
                omega
            · go_wp2
              go_roundw
              case rel => exact ⟨j + 1, r + 1, rfl, rfl, HJT.out, Lib.hid ⟨HJ1.out.symm, HD7.out⟩⟩
              case measure =>
                have := HJT.out
                show ((kA : Int) - ((j : Int) + 1)).toNat < ((kA : Int) - (j : Int)).toNat
                omega
          · have ej : j = kA := by omega
            subst ej
            have HE := Lib.hid (show r = pairs (now.take (i + 1)) was ∧ Dr w5 wr by
              refine ⟨?_, HQ.out.2⟩
              rw [HQ.out.1, HN2.out, ← HK.out.1, List.take_length])
            have hi0 : (0 : Int) ≤ (i : Int) := by omega
            clear hjt hj
            go_wp2
            go_roundw
            case rel => exact ⟨i + 1, p, r, rfl, rfl, rfl, HLT.out, Lib.hid ⟨HN1.out.symm, HE.out.1, HE.out.2⟩⟩
            case measure =>
              have := HLT.out
              show ((kB : Int) - ((i : Int) + 1)).toNat < ((kB : Int) - (i : Int)).toNat
              omega
      · have hp2 : (p : Int) + 1 = (p' : Int) := by omega
        clear hp'
        go_wp2_with fail
        go_loopw [11, 13] (fun v11 v13 wz => ∃ (j r : Nat), v13 = .int .i64 (j : Int) ∧ v11 = .int .i64 (r : Int) ∧ j ≤ kA ∧ Hid (r = q + cnt y (was.take j) ∧ Dr w5 wz))
          (fun v11 v13 wz => ((kA : Int) - intOf v13).toNat)
        case atStart => exact ⟨0, q, rfl, rfl, Nat.zero_le _, Lib.hid ⟨rfl, HD6.out⟩⟩
        case round =>
          obtain ⟨j, r, rfl, rfl, hj, HQ⟩ := hrel
          by_cases hjt : j < kA
          · have hjI : (j : Int) < (kA : Int) := by omega
            have hj0 : (0 : Int) ≤ (j : Int) := by omega
            have hjl : j < was.length := by rw [HK.out.1]; exact hjt
            obtain ⟨z, hz⟩ : ∃ z, was[j] = z := ⟨_, rfl⟩
            obtain ⟨z0, z1, z2⟩ := (HRA5.out.dr HQ.out.2).at_ hjl
            have hil : i < now.length := by rw [HK.out.2]; exact HLT.out
            obtain ⟨q0, q1, q2⟩ := (HR5.out.1.dr HQ.out.2).at_ hil
            have hyy : now[i] = y := by have := HIL.out; rw [List.getElem?_eq_getElem hil] at this; exact Option.some.inj this
            rw [hyy, HY.out.2.1] at q0
            rw [hyy, HY.out.2.2.1] at q1
            rw [hyy, HY.out.2.2.2] at q2
            rw [hz] at z0 z1 z2
            obtain ⟨zn, zt, zp, hzn, hzt, hzp, hZ⟩ := opV_lit z
            rw [hzn] at z0
            rw [hzt] at z1
            rw [hzp] at z2
            obtain ⟨e, he⟩ : ∃ e, decide (z = y) = e := ⟨_, rfl⟩
            have heq : ∀ w1, (binOp .eql 23 (.agg #[.string yn, .int .i64 yt, .int .i64 yp]) (.agg #[.string zn, .int .i64 zt, .int .i64 zp])).run Tryd.prog w1 = .ok (.bool e) w1 := fun w1 => by
              have h9 := eqO y z w1
              rw [HY.out.1, hZ] at h9
              rw [h9, ← he]
              congr 2
              exact decide_eq_decide.2 ⟨fun h => h.symm, fun h => h.symm⟩
            have htk2 : was.take (j + 1) = was.take j ++ [z] := by rw [List.take_succ_eq_append_getElem hjl, hz]
            have hrb : r ≤ q + kA := by
              rw [HQ.out.1, ← HK.out.1]
              exact Nat.add_le_add_left (Nat.le_trans (cnt_le _ _) (List.length_take_le' _ _)) _
            have hrI : (r : Int) ≤ 8796093022202 := by omega
            have HJ1 := Lib.hid (show q + cnt y (was.take (j + 1)) = r + (if e then 1 else 0) by rw [htk2, cnt_snoc, HQ.out.1, ← he]; by_cases e9 : z = y <;> simp [e9]; omega)
            have HJT := Lib.hid hjt
            have hi0 : (0 : Int) ≤ (i : Int) := by omega
            clear hjl hil hyy hz hzn hzt hzp hZ htk2 hrb hjt hj he
            go_upto_region 18 with fail
            go_quiet (fail)
            have HD7 := Lib.hid (HQ.out.2.more nq)
            clear q0 q1 q2 z0 z1 z2 heq
            cases e
            · go_wp2
              go_roundw
              case rel => exact ⟨j + 1, r, rfl, rfl, HJT.out, Lib.hid ⟨HJ1.out.symm, HD7.out⟩⟩
              case measure =>
                have := HJT.out
                show ((kA : Int) - ((j : Int) + 1)).toNat < ((kA : Int) - (j : Int)).toNat
                omega
            · go_wp2
              go_roundw
              case rel => exact ⟨j + 1, r + 1, rfl, rfl, HJT.out, Lib.hid ⟨HJ1.out.symm, HD7.out⟩⟩
              case measure =>
                have := HJT.out
                show ((kA : Int) - ((j : Int) + 1)).toNat < ((kA : Int) - (j : Int)).toNat
                omega
          · have ej : j = kA := by omega
            subst ej
            have HE := Lib.hid (show r = pairs (now.take (i + 1)) was ∧ Dr w5 wr by
              refine ⟨?_, HQ.out.2⟩
              rw [HQ.out.1, HN2.out, ← HK.out.1, List.take_length])
            have hi0 : (0 : Int) ≤ (i : Int) := by omega
            clear hjt hj
            go_wp2
            go_roundw
            case rel => exact ⟨i + 1, p', r, rfl, rfl, rfl, HLT.out, Lib.hid ⟨HN1.out.symm, HE.out.1, HE.out.2⟩⟩
            case measure =>
              have := HLT.out
              show ((kB : Int) - ((i : Int) + 1)).toNat < ((kB : Int) - (i : Int)).toNat
              omega
    · have ei : i = kB := by omega
      subst ei
      have hp0 : p = cnt x now := by rw [HP.out.1, ← HK.out.2, List.take_length]
      have hq0 : q = pairs now was := by rw [HP.out.2.1, ← HK.out.2, List.take_length]
      obtain ⟨l1, l2, l3⟩ := HLAW.out
      rw [← hp0, ← hq0, HK.out.1, HK.out.2] at l3
      rw [← hp0, ← hq0, HK.out.1, HK.out.2] at l2
      rw [← hq0, HK.out.1, HK.out.2] at l1
      obtain ⟨x0, x1, x2⟩ := (HBX5.out.dr HP.out.2.2).cells
      rw [HXN.out.2.2.2] at x2
      rw [HXN.out.2.2.2] at l2 l3
      have HD := Lib.hid (HB5.out.trans (HP.out.2.2.below _))
      clear x0 x1 hp0 hq0 hlt hi
      by_cases hc : co = 0
      · subst hc
        by_cases h0 : xp = 0
        · subst h0
          obtain ⟨e1, e2, e3⟩ := l2 rfl rfl
          subst e1 e2
          have hg : decide ((kA : Int) - 1 ≤ (q : Int)) = true := decide_eq_true (by omega)
          clear l1 l2 l3 e3
          go_wp2
          go_ret
          exact ⟨rfl, HD.out⟩
        · have hz : (xp == 0) = false := beq_eq_false_iff_ne.2 h0
          obtain ⟨e1, e2, e3⟩ := l3 rfl h0
          subst e1
          have hg : decide ((kA : Int) - 1 ≤ (q : Int)) = true := decide_eq_true (by omega)
          clear l1 l2 l3 e2 h0
          rcases e3 with e | e
          · subst e
            go_wp2
            go_ret
            exact ⟨rfl, HD.out⟩
          · have hne : ((i : Int) == (kA : Int)) = false := beq_eq_false_iff_ne.2 (by omega)
            have he : ((i : Int) == (kA : Int) + 1) = true := beq_iff_eq.2 (by omega)
            clear e
            go_wp2
            go_ret
            exact ⟨rfl, HD.out⟩
      · have hz : (co == 0) = false := beq_eq_false_iff_ne.2 hc
        obtain ⟨e1, e2⟩ := l1 hc
        clear l1 l2 l3 hc
        subst e1
        subst e2
        go_wp2
        go_ret
        exact ⟨rfl, HD.out⟩
end Go.Proofs.YtfdcponamkfcaaaDoor
