import Derived.Test.YtpikjceodmepiaaGreatDoorFbb
set_option linter.unusedVariables false
set_option linter.unusedSimpArgs false
namespace Go.Proofs.YtpikjceodmepiaaGreatDoor
open Go.RowKit Hb Hf Ht
set_option linter.unusedVariables false
set_option linter.unusedSimpArgs false
attribute [local go_sem] Oper.semAt_some
/-! ### bound -/
theorem nrm_zero : (ib 0).Nrm := ⟨.inr (.inl rfl), fun _ => ⟨rfl, rfl⟩, by simp [ib, Bd.z, ival, nv, digs_zero]⟩
def BdPost (w : World) (r : Ed × Bool) (e : Ending) (w' : World) : Prop := ∃ d : Bd, e = .returned (.tuple #[d.v, .bool r.2]) ∧ d.At w' (Fr w.heap.size w') ∧ d.Nrm ∧ d.ed = r.1 ∧ szE r.1 ≤ 128 ∧ Below w.heap.size w w'
theorem canon_code {l : List UInt8} (h : canonB l = true) : pCode l 10 = 0 := by
  unfold canonB at h
  simp only [Bool.and_eq_true, decide_eq_true_eq] at h
  exact h.1
theorem short_back {z : Int} (h : tooLong z = false) : szE (.num z) ≤ 128 := by
  rw [tooLong_iff, decide_eq_false_iff_not, Classical.not_not] at h
  refine digs_length_le (by decide) (Nat.lt_of_lt_of_le h (Nat.le_of_eq ?_))
  show 2 ^ 4096 = 4294967296 ^ 128
  decide +kernel
theorem toL {n : List UInt8} {nby : ByteArray} (h : (⟨n.toArray⟩ : ByteArray) = nby) : nby.toList = n := by rw [← h, ByteArray.toList_eq]
set_option maxRecDepth 100000 in
set_option maxHeartbeats 2000000 in
theorem bound_ok {w : World} {t : Tm} {sl : Value} (h : TAt w w.heap.size t sl) (hc : t.k = 3 → canonB t.m = true) :
    Calls Tryz.prog 79 #[valT t sl] w (BdPost w (bdT t)) := by
  obtain ⟨k, nl, ml, b, v, ts, nby, mb, A, c, rfl, rfl, hnb, hmb, hl1, hl2, hl3, hv, hs1, hs2⟩ := h.letters
  rw [hv]
  have hc : k = 3 → canonB ml = true := hc
  obtain ⟨q, hq⟩ : ∃ q, ts.length = q := ⟨_, rfl⟩
  rw [hq]
  have hX := TBox.new (ts := ts) w (k := k) (b := b) (v := v) (sl := .slice A q c) hnb hmb
  have hE := EBox.new (w.alloc (.cells #[.int .i64 k, .string nby, .string mb, .int .u64 b, .int .i64 v, .slice A q c] 26)) (ib 0)
  rw [World.size_alloc] at hE
  have hb1 : Below w.heap.size w (w.alloc (.cells #[.int .i64 k, .string nby, .string mb, .int .u64 b, .int .i64 v, .slice A q c] 26)) := (Below.refl _ _).alloc (Nat.le_refl _) _
  have hX2 := hX.below (w' := (w.alloc (.cells #[.int .i64 k, .string nby, .string mb, .int .u64 b, .int .i64 v, .slice A q c] 26)).alloc (.cells (ib 0).vals.toArray 67)) ((Below.refl _ _).alloc (Nat.le_refl _) _)
  have HN := Lib.hid (fun (i : Int) => EBox.new (w.alloc (.cells #[.int .i64 k, .string nby, .string mb, .int .u64 b, .int .i64 v, .slice A q c] 26)) (ib i))
  have HB := Lib.hid (fun (o : Obj) => show Below w.heap.size w ((w.alloc (.cells #[.int .i64 k, .string nby, .string mb, .int .u64 b, .int .i64 v, .slice A q c] 26)).alloc o) from hb1.alloc hb1.size o)
  have hnl := toL hnb
  obtain ⟨x0, x1, x2, x3, x4, x5⟩ := hX2.cells hnb hmb
  obtain ⟨f0, f1, f2⟩ := hE.frozens
  simp only [Bd.vals, ib] at hE x0 x1 x2 x3 x4 x5 HN f0 f1 f2
  rw [World.size_alloc] at HN
  have HE := Lib.hid hE
  have HBy := Lib.hid (show mb.data.toList = ml from by rw [← hmb])
  clear h hX hX2 hE hb1 hv hnb hmb hl1 hl2 hl3 hs1 hq
  by_cases h3 : k = 3
  · subst h3
    have HC := Lib.hid (hc rfl)
    have HR := Lib.hid (show bdT (.mk 3 nl ml b v ts) = (.num (pVal ml 10), true) from rfl)
    rw [HR.out]
    obtain ⟨z, hz⟩ : ∃ z, pVal ml 10 = z := ⟨_, rfl⟩
    have HS := Lib.hid (show tooLong z = false from by rw [← hz]; exact code_ok (canon_code HC.out))
    have HP := Lib.hid (show Calls Tryz.prog 110 #[.string mb, .int .i64 10] _ (PostC _ z 0) from by
      have hh := Parse_any mb 10 ((w.alloc (.cells #[.int .i64 3, .string nby, .string mb, .int .u64 b, .int .i64 v, .slice A q c] 26)).alloc (.cells #[.int .i64 0, .bool false, .slice none 0 0] 67)) hs2
      rw [HBy.out, canon_code HC.out, hz] at hh
      exact hh)
    rw [hz]
    clear hz hs2 hc HC HR hnl f0 f1 f2 HN
    go_enter Tryz.func79, Tryz.ntmps79
    go_wp2_with fail
    (with_reducible refine HP.out.mono ?_)
    rintro e u ⟨vv, rfl, hr, _, hbu⟩
    obtain ⟨A3, c3, rfl, hat⟩ := (hr rfl).nb
    have HA := Lib.hid hat
    have HBu := Lib.hid hbu
    have HE2 := Lib.hid ((EBox.below (b := ib 0) HE.out hbu).below ((Below.refl u.heap.size u).alloc (Nat.le_refl _) (.cells #[.bool (decide (z < 0)), .slice A3 (digs W z.natAbs).length c3] 56)))
    clear hr hat hbu x0 x1 x2 x3 x4 x5
    obtain ⟨f0, f1, f2⟩ := HE2.out.frozens
    obtain ⟨y0, y1, y2⟩ := HE2.out.cells
    go_wp2
    have HSe := Lib.hid (HE2.out.set3 (nb z A3 c3))
    have hgt := HBu.out.size
    have HZ := Lib.hid (show w.heap.size + 2 ≤ u.heap.size from by simp at hgt; omega)
    have HBb := Lib.hid ((HB.out (.cells #[.int .i64 0, .bool false, .slice none 0 0] 67)).trans (HBu.out.mono (HB.out _).size))
    have HA2 := Lib.hid (show (nb z A3 c3).At (u.alloc (.cells #[.bool (decide (z < 0)), .slice A3 (digs W z.natAbs).length c3] 56)) (fun x => w.heap.size + 2 ≤ x ∧ x < u.heap.size) from HA.out.keep (fun x hx => ⟨⟨by have := hx.1; simp at this; omega, hx.2⟩, ((Below.refl u.heap.size u).alloc (Nat.le_refl _) _).block x hx.2⟩))
    have HBc := Lib.hid (HBb.out.alloc HBb.out.size (.cells #[.bool (decide (z < 0)), .slice A3 (digs W z.natAbs).length c3] 56))
    have HSz := Lib.hid (show u.heap.size < (u.alloc (.cells #[.bool (decide (z < 0)), .slice A3 (digs W z.natAbs).length c3] 56)).heap.size from by simp)
    simp only [nb] at HSe
    generalize (((u.alloc (.cells #[.bool (decide (z < 0)), .slice A3 (digs W z.natAbs).length c3] 56)).setCell ⟨w.heap.size + 1, 0, none⟩ (.int .i64 0)).setCell ⟨w.heap.size + 1, 1, none⟩ (.bool (decide (z < 0)))).setCell ⟨w.heap.size + 1, 2, none⟩ (.slice A3 (digs W z.natAbs).length c3) = u6 at *
    obtain ⟨r0, r1, r2⟩ := HSe.out.1.cells
    simp only at r0 r1 r2
    exact bodyPost_ret (v := .tuple #[.agg #[.int .i64 0, .bool (decide (z < 0)), .slice A3 (digs W z.natAbs).length c3], .bool true]) (by simp [results, Tryz.results79, go_sem, r0, r1, r2]) rfl
      ⟨nb z A3 c3, rfl, HA2.out.keep (fun x hx => ⟨⟨by have := hx.1; omega, by have := hx.2; have := HSz.out; have := HSe.out.2.size; omega⟩, HSe.out.2.block x (by have := hx.2; have := HSz.out; omega) (fun e => by injection e with e; have := hx.1; omega)⟩), nb_nrm _ _ _, nb_ed _ _ _, short_back HS.out, HBc.out.grown HSe.out.2 HBc.out.size (fun j e => by injection e with e; omega)⟩
  · have h30 : (k == 3) = false := beq_eq_false_iff_ne.2 h3
    have HP0 : True := trivial
    clear hc hs2 HE HBy
    by_cases h2 : k = 2
    · subst h2
      by_cases g1 : nl = sInf
      · have t1 : (nby.toList == [105, 110, 102]) = true := by rw [hnl, g1]; rfl
        have HR := Lib.hid (show bdT (.mk 2 nl ml b v ts) = (.lo, true) from by show (if (2 : Int) = 3 then (Ed.num (pVal ml 10), true) else if (2 : Int) = 2 ∧ nl = sInf then (Ed.lo, true) else if (2 : Int) = 2 ∧ nl = sSup then (Ed.hi, true) else (Ed.num 0, false)) = _; rw [if_neg (by decide), if_pos ⟨rfl, g1⟩])
        rw [HR.out]
        have HNi := Lib.hid (HN.out (-1))
        have HBi := Lib.hid (HB.out (.cells #[.int .i64 (-1), .bool false, .slice none 0 0] 67))
        clear HR HN HB HP0 hnl g1
        go_enter Tryz.func79, Tryz.ntmps79
        go_wp2
        obtain ⟨r0, r1, r2⟩ := HNi.out.cells
        simp only at r0 r1 r2
        exact bodyPost_ret (v := .tuple #[.agg #[.int .i64 (-1), .bool false, .slice none 0 0], .bool true]) (by simp [results, Tryz.results79, go_sem, r0, r1, r2]) rfl ⟨ib (-1), rfl, ib_at _ _ (by omega), ib_nrm (by omega), rfl, by simp [szE], HBi.out⟩
      · have t1 : (nby.toList == [105, 110, 102]) = false := by rw [hnl]; exact beq_eq_false_iff_ne.2 g1
        by_cases g2 : nl = sSup
        · have t2 : (nby.toList == [115, 117, 112]) = true := by rw [hnl, g2]; rfl
          have HR := Lib.hid (show bdT (.mk 2 nl ml b v ts) = (.hi, true) from by show (if (2 : Int) = 3 then (Ed.num (pVal ml 10), true) else if (2 : Int) = 2 ∧ nl = sInf then (Ed.lo, true) else if (2 : Int) = 2 ∧ nl = sSup then (Ed.hi, true) else (Ed.num 0, false)) = _; rw [if_neg (by decide), if_neg (fun h => g1 h.2), if_pos ⟨rfl, g2⟩])
          rw [HR.out]
          have HNi := Lib.hid (HN.out (1))
          have HBi := Lib.hid (HB.out (.cells #[.int .i64 (1), .bool false, .slice none 0 0] 67))
          clear HR HN HB HP0 hnl g1 g2
          go_enter Tryz.func79, Tryz.ntmps79
          go_wp2
          obtain ⟨r0, r1, r2⟩ := HNi.out.cells
          simp only at r0 r1 r2
          exact bodyPost_ret (v := .tuple #[.agg #[.int .i64 (1), .bool false, .slice none 0 0], .bool true]) (by simp [results, Tryz.results79, go_sem, r0, r1, r2]) rfl ⟨ib (1), rfl, ib_at _ _ (by omega), ib_nrm (by omega), rfl, by simp [szE], HBi.out⟩
        · have t2 : (nby.toList == [115, 117, 112]) = false := by rw [hnl]; exact beq_eq_false_iff_ne.2 g2
          have HR := Lib.hid (show bdT (.mk 2 nl ml b v ts) = (.num 0, false) from by show (if (2 : Int) = 3 then (Ed.num (pVal ml 10), true) else if (2 : Int) = 2 ∧ nl = sInf then (Ed.lo, true) else if (2 : Int) = 2 ∧ nl = sSup then (Ed.hi, true) else (Ed.num 0, false)) = _; rw [if_neg (by decide), if_neg (fun h => g1 h.2), if_neg (fun h => g2 h.2)])
          rw [HR.out]
          have HNi := Lib.hid (HN.out (0))
          have HBi := Lib.hid (HB.out (.cells #[.int .i64 (0), .bool false, .slice none 0 0] 67))
          clear HR HN HB HP0 hnl g1 g2
          go_enter Tryz.func79, Tryz.ntmps79
          go_wp2
          obtain ⟨r0, r1, r2⟩ := HNi.out.cells
          simp only at r0 r1 r2
          exact bodyPost_ret (v := .tuple #[.agg #[.int .i64 (0), .bool false, .slice none 0 0], .bool false]) (by simp [results, Tryz.results79, go_sem, r0, r1, r2]) rfl ⟨ib (0), rfl, ib_at _ _ (by omega), nrm_zero, rfl, by simp [szE] <;> exact Nat.le_trans (Nat.le_of_eq szE_nought) (by omega), HBi.out⟩
    · have h20 : (k == 2) = false := beq_eq_false_iff_ne.2 h2
      have HR := Lib.hid (show bdT (.mk k nl ml b v ts) = (.num 0, false) from by show (if k = 3 then (Ed.num (pVal ml 10), true) else if k = 2 ∧ nl = sInf then (Ed.lo, true) else if k = 2 ∧ nl = sSup then (Ed.hi, true) else (Ed.num 0, false)) = _; rw [if_neg h3, if_neg (fun h => h2 h.1), if_neg (fun h => h2 h.1)])
      rw [HR.out]
      have HNi := Lib.hid (HN.out (0))
      have HBi := Lib.hid (HB.out (.cells #[.int .i64 (0), .bool false, .slice none 0 0] 67))
      clear HR HN HB HP0 hnl h2 h3
      go_enter Tryz.func79, Tryz.ntmps79
      go_wp2
      obtain ⟨r0, r1, r2⟩ := HNi.out.cells
      simp only at r0 r1 r2
      exact bodyPost_ret (v := .tuple #[.agg #[.int .i64 (0), .bool false, .slice none 0 0], .bool false]) (by simp [results, Tryz.results79, go_sem, r0, r1, r2]) rfl ⟨ib (0), rfl, ib_at _ _ (by omega), nrm_zero, rfl, by simp [szE] <;> exact Nat.le_trans (Nat.le_of_eq szE_nought) (by omega), HBi.out⟩
end Go.Proofs.YtpikjceodmepiaaGreatDoor

