import Derived.Test.YtfdcponamkfcaaaDoorNq
namespace Go.Proofs.YtfdcponamkfcaaaDoor
open Go.RowKit Ho Go.Maps Go.Shelf Go.Sort Hb
set_option linter.unusedVariables false
set_option linter.unusedSimpArgs false
/-! ### OpsApart -/
theorem less_cb : ∀ a b : List UInt8, Op.bytesLess a b = decide (Lib.compareBytes a b < 0)
  | [], [] => by simp [Op.bytesLess, Lib.compareBytes]
  | [], _ :: _ => by simp [Op.bytesLess, Lib.compareBytes]
  | _ :: _, [] => by simp [Op.bytesLess, Lib.compareBytes]
  | a :: xs, b :: ys => by
    have e : Lib.compareBytes (a :: xs) (b :: ys) = if a < b then -1 else if b < a then 1 else Lib.compareBytes xs ys := by rw [Lib.compareBytes]
    rw [Op.bytesLess, less_cb xs ys, e]
    by_cases h1 : a < b
    · simp [h1]
    · by_cases h2 : b < a
      · have : ¬ a = b := fun e => by rw [e, UInt8.lt_iff_toNat_lt] at h2; omega
        simp [h1, h2, this]
      · have : a = b := UInt8.toNat_inj.1 (by rw [UInt8.lt_iff_toNat_lt] at h1 h2; omega)
        rw [if_neg h1, if_neg h2]
        simp [h1, this]
theorem less_sorted {l : List OpV} (h : l.Pairwise (fun x y => cmpO x y ≤ 0)) {k : Nat} (hk : k + 1 < l.length) : Op.bytesLess (l[k + 1]).n (l[k]).n = false := by
  have h1 := List.pairwise_iff_getElem.1 h k (k + 1) (by omega) hk (by omega)
  rw [less_cb]
  refine decide_eq_false ?_
  have h2 := cb_swap (l[k]).n (l[k + 1]).n
  unfold cmpO at h1
  split at h1
  · rename_i e
    rw [e, cb_refl]; omega
  · omega
theorem is_mem {L : List OpV} (hu : Uq L) {y : OpV} (hy : y ∈ L) (hc : cls y.t ≠ 0) : isV L y.n = true := by
  have h := hu.find hy
  have h3 := cls_three y.t
  unfold isV
  have h123 : cls y.t = 1 ∨ cls y.t = 2 ∨ cls y.t = 3 := by omega
  rcases h123 with e | e | e
  · rw [e] at h; rw [h]; simp
  · rw [e] at h; rw [h]; simp
  · rw [e] at h; rw [h]; simp
set_option maxRecDepth 100000 in
set_option maxHeartbeats 8000000 in
theorem Apart_walk {w : World} (hT : Tab w) (h2 : 2 ≤ w.heap.size) {A : Option Addr} {n c : Nat} {ls : List OpV} (hA : ArgO w w.heap.size A n c ls) (hn : n ≤ 4398046511000) :
    Calls Tryd.prog 5 #[.slice A n c] w (AwakePost w) := by
  have HB0 := Lib.hid (Below.refl w.heap.size w)
  have HT := Lib.hid (fun w1 (hb : Below w.heap.size w w1) => And.intro (hT.below hb h2) (Nat.le_trans h2 hb.size))
  have HA := Lib.hid (fun w1 (hb : Below w.heap.size w w1) => show ArgO w1 w1.heap.size A n c ls from ⟨hA.len, hA.cap, hA.max, (hA.rd.below hb (Nat.le_refl _)).mono hb.size, hA.nm⟩)
  have HNm := Lib.hid hA.nm
  obtain ⟨L, hL⟩ : ∃ L, fill L0 ls = L := ⟨_, rfl⟩
  have HI := Lib.hid (show Inv L by rw [← hL]; exact inv_fill inv_L0 ls)
  have HLn := Lib.hid (show L.length ≤ 100 + n by rw [← hL, ← hA.len]; have := fill_len L0 ls; have := L0_len; omega)
  have HLN := Lib.hid (show ∀ x ∈ L, x.n.length ≤ maxLen by rw [← hL]; exact fill_names L0_names hA.nm)
  have HL := Lib.hid hL
  clear hT h2 hA hL
  go_enter Tryd.func5, Tryd.ntmps5
  go_wp2_with fail
  (with_reducible refine (awake_any (HT.out _ HB0.out).1 (HT.out _ HB0.out).2).mono ?_)
  rintro ex w1 ⟨rfl, hb1⟩
  have HB1 := Lib.hid (HB0.out.trans (hb1.mono HB0.out.size))
  clear hb1
  go_wp2_with fail
  (with_reducible refine (filled_any (HT.out _ HB1.out).1 (HT.out _ HB1.out).2 (HA.out _ HB1.out) (by omega)).mono ?_)
  rintro ex w2 ⟨rfl, ht2, hb2⟩
  rw [HL.out] at ht2
  have HT2 := Lib.hid ht2
  have HB2 := Lib.hid (HB1.out.trans (hb2.mono HB1.out.size))
  have HZ1 := Lib.hid HB1.out.size
  clear hb2 ht2
  generalize w1.heap.size = g at *
  go_wp2_with fail
  (with_reducible refine (alls_any sort_ok HT2.out (good_of HI.out) (by have := HLn.out; omega)).mono ?_)
  rintro ex w3 ⟨gB, cB, rfl, hrow3, hb3⟩
  have h3 := row_of_owns hrow3
  have HR3 := Lib.hid h3.1
  have hcap3 := owns_cap hrow3
  have HT3 := Lib.hid (HT2.out.below' hb3)
  have HB3 := Lib.hid (HB2.out.trans (hb3.mono HB2.out.size))
  clear hb3 h3 hrow3
  obtain ⟨now, hnow⟩ : ∃ l, srt L = l := ⟨_, rfl⟩
  obtain ⟨kB, hkB'⟩ : ∃ k, L.length = k := ⟨_, rfl⟩
  rw [hkB'] at hcap3 HLn ⊢
  rw [hnow] at HR3
  have HK := Lib.hid (show now.length = kB by rw [← hnow, ← hkB']; exact (srt_perm L).length_eq)
  have HMem := Lib.hid (show ∀ y ∈ now, y ∈ L by rw [← hnow]; exact fun y hy => (srt_perm L).mem_iff.1 hy)
  have HSo := Lib.hid (show now.Pairwise (fun x y => cmpO x y ≤ 0) by rw [← hnow]; exact srt_sorted L)
  have hBI : (kB : Int) ≤ 4398046511101 := by have := HLn.out; omega
  clear hnow hkB' hn HB0 HB1 HB2 HT2 HA
  go_wp2_with fail
  go_loopw [6] (fun v6 wr => ∃ i : Nat, v6 = .int .i64 (i : Int) ∧ i ≤ kB ∧ Hid (TabAt wr g (g + 1) (g + 1 + 1) (g + 1 + 1 + 1) ((rowsO 14).length + n) L ∧ RowO wr gB now ∧ Below w.heap.size w wr))
    (fun v6 wr => ((kB : Int) - intOf v6).toNat)
  case atStart => exact ⟨0, rfl, Nat.zero_le _, Lib.hid ⟨HT3.out, HR3.out, HB3.out⟩⟩
  case round =>
    obtain ⟨i, rfl, hi, HP⟩ := hrel
    by_cases hlt : i < kB
    · have hltI : (i : Int) < (kB : Int) := by omega
      have hi0 : (0 : Int) ≤ (i : Int) := by omega
      have hil : i < now.length := by rw [HK.out]; exact hlt
      obtain ⟨y, hy⟩ : ∃ y, now[i] = y := ⟨_, rfl⟩
      have hyL : y ∈ L := HMem.out y (by rw [← hy]; exact List.getElem_mem hil)
      have hyn := HLN.out y hyL
      have hyp := HI.out.pr y hyL
      have hyi := is_mem HI.out.uq hyL (HI.out.cl y hyL)
      have hya := HI.out.apart y.n
      obtain ⟨q0, q1, q2⟩ := HP.out.2.1.at_ hil
      rw [hy] at q0 q1 q2
      obtain ⟨nm, hnm⟩ : ∃ nm : ByteArray, (⟨y.n.toArray⟩ : ByteArray) = nm := ⟨_, rfl⟩
      have hs : nm.size ≤ maxLen := by rw [← hnm]; show y.n.toArray.size ≤ maxLen; rw [List.size_toArray]; exact hyn
      have hnd : nm.data.toList = y.n := by rw [← hnm]
      rw [hnm] at q0
      obtain ⟨r2, hr2⟩ : ∃ r, Ho.find L 2 y.n = r := ⟨_, rfl⟩
      obtain ⟨r3, hr3⟩ : ∃ r, Ho.find L 3 y.n = r := ⟨_, rfl⟩
      rw [hr2, hr3] at hya
      have HIn := Lib.hid (show Calls Tryd.prog 18 #[.pointer (some ⟨g, 0, none⟩), .string nm] wr (FindPost wr r2) from by
        have h9 := Infix_any HP.out.1 hs
        rw [hnd] at h9
        rw [← hr2]; exact h9)
      have HPo := Lib.hid (fun w1 (hb : Below wr.heap.size wr w1) => show Calls Tryd.prog 19 #[.pointer (some ⟨g, 0, none⟩), .string nm] w1 (FindPost w1 r3) from by
        have h9 := Postfix_any (HP.out.1.below' hb) hs
        rw [hnd] at h9
        rw [← hr3]; exact h9)
      have HIs := Lib.hid (fun w1 (hb : Below wr.heap.size wr w1) => show Calls Tryd.prog 20 #[.pointer (some ⟨g, 0, none⟩), .string nm] w1 (fun e w' => e = .returned (.bool true) ∧ Below w1.heap.size w1 w') from by
        have h9 := Is_any (HP.out.1.below' hb) hs
        rw [hnd, hyi] at h9
        exact h9)
      have HLT := Lib.hid hlt
      have HY := Lib.hid (And.intro (show now[i]? = some y by rw [← hy]; exact List.getElem?_eq_getElem hil) (And.intro hnm hyp))
      have HAp := Lib.hid hya
      have HD := Lib.hid hnd
      clear hlt hi hil hy hyL hyn hyp hyi hya hnm hs hnd hr2 hr3 q1 q2
      go_wp2_with fail
      (with_reducible refine HIn.out.mono ?_)
      rintro ex wa ⟨rfl, hba⟩
      obtain ⟨am, at', ap, hX⟩ := opV_parts (r2.getD zeroOp)
      rw [hX]
      clear hX
      obtain ⟨bi, hbi⟩ : ∃ k, r2.isSome = k := ⟨_, rfl⟩
      rw [hbi] at HAp ⊢
      have HBa := Lib.hid (hba.alloc hba.size (.cells #[.string am, .int .i64 at', .int .i64 ap] 23))
      have HRa := Lib.hid (HP.out.2.1.same (HBa.out.block _ HP.out.2.1.lt))
      clear hba hbi q0
      go_upto_region 10 with fail
      generalize wa.alloc (.cells #[.string am, .int .i64 at', .int .i64 ap] 23) = wb at *
      have q0 := (HRa.out.of HY.out.1).1
      rw [HY.out.2.1] at q0
      go_wp2_with fail
      (with_reducible refine (HPo.out _ HBa.out).mono ?_)
      rintro ex wc ⟨rfl, hbc⟩
      obtain ⟨bm, bt, bp, hX⟩ := opV_parts (r3.getD zeroOp)
      rw [hX]
      clear hX
      obtain ⟨bo, hbo⟩ : ∃ k, r3.isSome = k := ⟨_, rfl⟩
      rw [hbo] at HAp ⊢
      have HBc := Lib.hid ((HBa.out.trans (hbc.mono HBa.out.size)).alloc (Nat.le_trans HBa.out.size hbc.size) (.cells #[.string bm, .int .i64 bt, .int .i64 bp] 23))
      have HRc := Lib.hid (HP.out.2.1.same (HBc.out.block _ HP.out.2.1.lt))
      clear hbc hbo q0
      go_upto_region 11 with fail
      generalize wc.alloc (.cells #[.string bm, .int .i64 bt, .int .i64 bp] 23) = wd at *
      have q0 := (HRc.out.of HY.out.1).1
      rw [HY.out.2.1] at q0
      go_wp2_with fail
      (with_reducible refine (HIs.out _ HBc.out).mono ?_)
      rintro ex we ⟨rfl, hbe⟩
      have HBe := Lib.hid (HBc.out.trans (hbe.mono HBc.out.size))
      have HRe := Lib.hid (HP.out.2.1.same (HBe.out.block _ HP.out.2.1.lt))
      clear hbe q0
      have HEnd := Lib.hid (show TabAt we g (g + 1) (g + 1 + 1) (g + 1 + 1 + 1) ((rowsO 14).length + n) L ∧ RowO we gB now ∧ Below w.heap.size w we from ⟨HP.out.1.below' HBe.out, HRe.out, HP.out.2.2.trans (HBe.out.mono HP.out.2.2.size)⟩)
      go_upto_region 12 with fail
      obtain ⟨q0, q1, q2⟩ := HRe.out.of HY.out.1
      rw [HY.out.2.1] at q0
      obtain ⟨yp, hyp⟩ : ∃ p, y.p = p := ⟨_, rfl⟩
      rw [hyp] at q2
      have d1 : decide (yp < 1) = false := decide_eq_false (by have := HY.out.2.2.1; omega)
      have d2 : decide (1200 < yp) = false := decide_eq_false (by have := HY.out.2.2.2; omega)
      have HAp2 := Lib.hid (show bi = true → bo = false by
        intro e1
        have := HAp.out
        rw [e1] at this
        cases bo
        · rfl
        · exact absurd ⟨rfl, rfl⟩ this)
      have hk : ∀ we', Dr we we' → Hid (TabAt we' g (g + 1) (g + 1 + 1) (g + 1 + 1 + 1) ((rowsO 14).length + n) L ∧ RowO we' gB now ∧ Below w.heap.size w we') := fun we' hd =>
        Lib.hid ⟨HEnd.out.1.below' (hd.below _), HEnd.out.2.1.dr hd, HEnd.out.2.2.trans (hd.below _)⟩
      have HK2 := Lib.hid hk
      clear hk hyp q1
      by_cases h0 : i = 0
      · have d3 : decide (0 < (i : Int)) = false := decide_eq_false (by omega)
        have d4 : decide (0 < i) = false := decide_eq_false (by omega)
        clear h0
        cases bi
        · go_quiet (fail)
          have HEnd2 := HK2.out _ ((Dr.refl we).more nq)
          go_wp2
          go_roundw
          case rel => exact ⟨i + 1, rfl, HLT.out, HEnd2⟩
          case measure =>
            have := HLT.out
            show ((kB : Int) - ((i : Int) + 1)).toNat < ((kB : Int) - (i : Int)).toNat
            omega
        · obtain rfl := HAp2.out rfl
          go_quiet (fail)
          have HEnd2 := HK2.out _ ((Dr.refl we).more nq)
          go_wp2
          go_roundw
          case rel => exact ⟨i + 1, rfl, HLT.out, HEnd2⟩
          case measure =>
            have := HLT.out
            show ((kB : Int) - ((i : Int) + 1)).toNat < ((kB : Int) - (i : Int)).toNat
            omega
      · obtain ⟨k, hk⟩ : ∃ k, i = k + 1 := ⟨i - 1, by omega⟩
        have hki : (i : Int) - 1 = (k : Int) := by omega
        have hk0 : (0 : Int) ≤ (k : Int) := by omega
        have hkk : (k : Int) < (kB : Int) := by omega
        have d3 : decide (0 < (i : Int)) = true := decide_eq_true (by omega)
        have d4 : decide (0 < i) = true := decide_eq_true (by omega)
        have hil : k + 1 < now.length := by rw [← hk, HK.out]; exact HLT.out
        obtain ⟨z, hz⟩ : ∃ z, now[k]? = some z := ⟨_, List.getElem?_eq_getElem (by omega)⟩
        obtain ⟨z0, _, _⟩ := HRe.out.of hz
        obtain ⟨zn, hzn⟩ : ∃ b : ByteArray, (⟨z.n.toArray⟩ : ByteArray) = b := ⟨_, rfl⟩
        rw [hzn] at z0
        have hless : Op.bytesLess nm.toList zn.toList = false := by
          have h9 := less_sorted HSo.out hil
          have e1 : now[k + 1] = y := by have := HY.out.1; rw [hk, List.getElem?_eq_getElem hil] at this; exact Option.some.inj this
          have e2 : now[k] = z := by have := hz; rw [List.getElem?_eq_getElem (by omega)] at this; exact Option.some.inj this
          rw [e1, e2] at h9
          rw [ByteArray.toList_eq, ByteArray.toList_eq, ← HY.out.2.1, ← hzn]
          exact h9
        clear hil hz hzn h0 hk
        cases bi
        · go_quiet (fail)
          have HEnd2 := HK2.out _ ((Dr.refl we).more nq)
          go_wp2
          go_roundw
          case rel => exact ⟨i + 1, rfl, HLT.out, HEnd2⟩
          case measure =>
            have := HLT.out
            show ((kB : Int) - ((i : Int) + 1)).toNat < ((kB : Int) - (i : Int)).toNat
            omega
        · obtain rfl := HAp2.out rfl
          go_quiet (fail)
          have HEnd2 := HK2.out _ ((Dr.refl we).more nq)
          go_wp2
          go_roundw
          case rel => exact ⟨i + 1, rfl, HLT.out, HEnd2⟩
          case measure =>
            have := HLT.out
            show ((kB : Int) - ((i : Int) + 1)).toNat < ((kB : Int) - (i : Int)).toNat
            omega
    · have ei : i = kB := by omega
      subst ei
      have HFi := Lib.hid (show Calls Tryd.prog 18 #[.pointer (some ⟨g, 0, none⟩), .string ⟨#[44]⟩] wr (fun e w' => e = .returned (.tuple #[.agg #[.string ⟨#[44]⟩, .int .i64 4, .int .i64 1000], .bool true]) ∧ Below wr.heap.size wr w') from by
        have h9 := Infix_any HP.out.1 (s := ⟨#[44]⟩) (by decide)
        have e9 : Ho.find L (1 + 1) (⟨#[44]⟩ : ByteArray).data.toList = some ⟨[44], 4, 1000⟩ := HI.out.comma
        rw [e9] at h9
        exact h9)
      have heq : ∀ w1 : World, (binOp .eql 23 (.agg #[.string ⟨#[44]⟩, .int .i64 4, .int .i64 1000]) (.agg #[.string ⟨#[44]⟩, .int .i64 4, .int .i64 1000])).run Tryd.prog w1 = .ok (.bool true) w1 := fun _ => by kernel_rfl
      clear hlt hi
      go_wp2_with fail
      (with_reducible refine HFi.out.mono ?_)
      rintro ex wa ⟨rfl, hba⟩
      have HE := Lib.hid (HP.out.2.2.trans ((hba.alloc hba.size (.cells #[.string ⟨#[44]⟩, .int .i64 4, .int .i64 1000] 23)).mono HP.out.2.2.size))
      clear hba
      go_wp2
      go_ret
      exact ⟨rfl, HE.out⟩
end Go.Proofs.YtfdcponamkfcaaaDoor
