import Derived.Test.YtfdcponamkfcaaaDoorMb
namespace Go.Proofs.YtfdcponamkfcaaaDoor
open Go.RowKit Ho Go.Maps Go.Shelf Go.Sort Hb
set_option linter.unusedVariables false
set_option linter.unusedSimpArgs false
/-! ### the law's asked -/
set_option maxRecDepth 100000 in
set_option maxHeartbeats 8000000 in
theorem asked_any {w : World} {g h N : Nat} {b1 b2 b3 : Nat} {L : List OpV} (hT : TabAt w g b1 b2 b3 N L) (hR : RTab w h L) (hL : L.length ≤ 4398046511101) {s : ByteArray} (hs : s.size ≤ maxLen) :
    Calls Tryd.prog 27 #[.pointer (some ⟨g, 0, none⟩), .pointer (some ⟨h, 0, none⟩), .string s] w fun e w' => e = .returned (.bool true) ∧ Below w.heap.size w w' := by
  obtain ⟨r1, hr1⟩ : ∃ r, Ho.find L 1 s.data.toList = r := ⟨_, rfl⟩
  obtain ⟨r2, hr2⟩ : ∃ r, Ho.find L 2 s.data.toList = r := ⟨_, rfl⟩
  obtain ⟨r3, hr3⟩ : ∃ r, Ho.find L 3 s.data.toList = r := ⟨_, rfl⟩
  have HP := Lib.hid (fun w1 (hb : Below w.heap.size w w1) => show Calls Tryd.prog 30 #[.pointer (some ⟨g, 0, none⟩), .string s] w1 (FindPost w1 r1) from by rw [← hr1]; exact Prefix_any (hT.below' hb) hs)
  have HI := Lib.hid (fun w1 (hb : Below w.heap.size w w1) => show Calls Tryd.prog 18 #[.pointer (some ⟨g, 0, none⟩), .string s] w1 (FindPost w1 r2) from by rw [← hr2]; exact Infix_any (hT.below' hb) hs)
  have HO := Lib.hid (fun w1 (hb : Below w.heap.size w w1) => show Calls Tryd.prog 19 #[.pointer (some ⟨g, 0, none⟩), .string s] w1 (FindPost w1 r3) from by rw [← hr3]; exact Postfix_any (hT.below' hb) hs)
  have HF1 := Lib.hid (fun w1 (hb : Below w.heap.size w w1) => show Calls Tryd.prog 44 #[.pointer (some ⟨h, 0, none⟩), .int .i64 1, .string s] w1 (FindPost w1 r1) from by rw [← hr1]; exact rfind_any (hR.below hb) (by omega) (c := 1))
  have HF2 := Lib.hid (fun w1 (hb : Below w.heap.size w w1) => show Calls Tryd.prog 44 #[.pointer (some ⟨h, 0, none⟩), .int .i64 2, .string s] w1 (FindPost w1 r2) from by rw [← hr2]; exact rfind_any (hR.below hb) (by omega) (c := 2))
  have HF3 := Lib.hid (fun w1 (hb : Below w.heap.size w w1) => show Calls Tryd.prog 44 #[.pointer (some ⟨h, 0, none⟩), .int .i64 3, .string s] w1 (FindPost w1 r3) from by rw [← hr3]; exact rfind_any (hR.below hb) (by omega) (c := 3))
  obtain ⟨v, hv⟩ : ∃ v, isV L s.data.toList = v := ⟨_, rfl⟩
  have HS := Lib.hid (fun w1 (hb : Below w.heap.size w w1) => show Calls Tryd.prog 20 #[.pointer (some ⟨g, 0, none⟩), .string s] w1 (fun e w' => e = .returned (.bool v) ∧ Below w1.heap.size w1 w') from by rw [← hv]; exact Is_any (hT.below' hb) hs)
  have HRS := Lib.hid (fun w1 (hb : Below w.heap.size w w1) => show Calls Tryd.prog 45 #[.pointer (some ⟨h, 0, none⟩), .string s] w1 (fun e w' => e = .returned (.bool v) ∧ Below w1.heap.size w1 w') from by rw [← hv]; exact ris_any (hR.below hb) (by omega))
  obtain ⟨x1, hx1⟩ : ∃ x, r1.getD zeroOp = x := ⟨_, rfl⟩
  obtain ⟨x2, hx2⟩ : ∃ x, r2.getD zeroOp = x := ⟨_, rfl⟩
  obtain ⟨x3, hx3⟩ : ∃ x, r3.getD zeroOp = x := ⟨_, rfl⟩
  obtain ⟨n1, t1, p1, hn1, ht1, hp1, hX1⟩ := opV_lit x1
  have hq1 : ∀ w1, (binOp .eql 23 (.agg #[.string n1, .int .i64 t1, .int .i64 p1]) (.agg #[.string n1, .int .i64 t1, .int .i64 p1])).run Tryd.prog w1 = .ok (.bool true) w1 := fun w1 => by
    have h9 := eqO x1 x1 w1
    rw [hX1] at h9
    rw [h9]
    simp
  obtain ⟨o1, ho1⟩ : ∃ o, r1.isSome = o := ⟨_, rfl⟩
  have HX1 := Lib.hid (show r1.getD zeroOp = x1 ∧ opV x1 = .agg #[.string n1, .int .i64 t1, .int .i64 p1] ∧ r1.isSome = o1 from ⟨hx1, hX1, ho1⟩)
  have HE1 := Lib.hid (show encO x1 = [.string n1, .int .i64 t1, .int .i64 p1] by unfold encO; rw [hn1, ht1, hp1])
  obtain ⟨n2, t2, p2, hn2, ht2, hp2, hX2⟩ := opV_lit x2
  have hq2 : ∀ w1, (binOp .eql 23 (.agg #[.string n2, .int .i64 t2, .int .i64 p2]) (.agg #[.string n2, .int .i64 t2, .int .i64 p2])).run Tryd.prog w1 = .ok (.bool true) w1 := fun w1 => by
    have h9 := eqO x2 x2 w1
    rw [hX2] at h9
    rw [h9]
    simp
  obtain ⟨o2, ho2⟩ : ∃ o, r2.isSome = o := ⟨_, rfl⟩
  have HX2 := Lib.hid (show r2.getD zeroOp = x2 ∧ opV x2 = .agg #[.string n2, .int .i64 t2, .int .i64 p2] ∧ r2.isSome = o2 from ⟨hx2, hX2, ho2⟩)
  have HE2 := Lib.hid (show encO x2 = [.string n2, .int .i64 t2, .int .i64 p2] by unfold encO; rw [hn2, ht2, hp2])
  obtain ⟨n3, t3, p3, hn3, ht3, hp3, hX3⟩ := opV_lit x3
  have hq3 : ∀ w1, (binOp .eql 23 (.agg #[.string n3, .int .i64 t3, .int .i64 p3]) (.agg #[.string n3, .int .i64 t3, .int .i64 p3])).run Tryd.prog w1 = .ok (.bool true) w1 := fun w1 => by
    have h9 := eqO x3 x3 w1
    rw [hX3] at h9
    rw [h9]
    simp
  obtain ⟨o3, ho3⟩ : ∃ o, r3.isSome = o := ⟨_, rfl⟩
  have HX3 := Lib.hid (show r3.getD zeroOp = x3 ∧ opV x3 = .agg #[.string n3, .int .i64 t3, .int .i64 p3] ∧ r3.isSome = o3 from ⟨hx3, hX3, ho3⟩)
  have HE3 := Lib.hid (show encO x3 = [.string n3, .int .i64 t3, .int .i64 p3] by unfold encO; rw [hn3, ht3, hp3])
  have ho4 : ∀ b : Bool, (b == b) = true := fun b => by simp
  clear hT hR hL hs hr1 hr2 hr3 hv hx1 hn1 ht1 hp1 hX1 ho1 hx2 hn2 ht2 hp2 hX2 ho2 hx3 hn3 ht3 hp3 hX3 ho3
  have HB0 := Lib.hid (Below.refl w.heap.size w)
  go_enter Tryd.func27, Tryd.ntmps27
  go_wp2_with fail
  (with_reducible refine (HP.out _ HB0.out).mono ?_)
  rintro ex u0 ⟨rfl, hb⟩
  rw [HX1.out.1, HX1.out.2.1, HX1.out.2.2]
  have HB1 := Lib.hid ((HB0.out.trans (hb.mono HB0.out.size)).alloc (Nat.le_trans HB0.out.size hb.size) (.cells #[.string n1, .int .i64 t1, .int .i64 p1] 23))
  have hbb := hb.alloc hb.size (.cells #[.string n1, .int .i64 t1, .int .i64 p1] 23)
  have K0_0 := Lib.hid (show BoxO (u0.alloc (.cells #[.string n1, .int .i64 t1, .int .i64 p1] 23)) u0.heap.size x1 from by
    have h9 := World.alloc_heap_new u0 (.cells #[.string n1, .int .i64 t1, .int .i64 p1] 23)
    unfold BoxO
    rw [HE1.out]
    exact h9)
  clear hb hbb
  go_upto_region 2 with fail
  generalize u0.alloc (.cells #[.string n1, .int .i64 t1, .int .i64 p1] 23) = W0 at *
  generalize u0.heap.size = g0 at *
  go_wp2_with fail
  (with_reducible refine (HI.out _ HB1.out).mono ?_)
  rintro ex u1 ⟨rfl, hb⟩
  rw [HX2.out.1, HX2.out.2.1, HX2.out.2.2]
  have HB2 := Lib.hid ((HB1.out.trans (hb.mono HB1.out.size)).alloc (Nat.le_trans HB1.out.size hb.size) (.cells #[.string n2, .int .i64 t2, .int .i64 p2] 23))
  have hbb := hb.alloc hb.size (.cells #[.string n2, .int .i64 t2, .int .i64 p2] 23)
  have K0_1 := Lib.hid (show BoxO _ g0 x1 from (hbb.block _ K0_0.out.lt).trans K0_0.out)
  have K1_1 := Lib.hid (show BoxO (u1.alloc (.cells #[.string n2, .int .i64 t2, .int .i64 p2] 23)) u1.heap.size x2 from by
    have h9 := World.alloc_heap_new u1 (.cells #[.string n2, .int .i64 t2, .int .i64 p2] 23)
    unfold BoxO
    rw [HE2.out]
    exact h9)
  clear hb hbb
  go_upto_region 3 with fail
  generalize u1.alloc (.cells #[.string n2, .int .i64 t2, .int .i64 p2] 23) = W1 at *
  generalize u1.heap.size = g1 at *
  go_wp2_with fail
  (with_reducible refine (HO.out _ HB2.out).mono ?_)
  rintro ex u2 ⟨rfl, hb⟩
  rw [HX3.out.1, HX3.out.2.1, HX3.out.2.2]
  have HB3 := Lib.hid ((HB2.out.trans (hb.mono HB2.out.size)).alloc (Nat.le_trans HB2.out.size hb.size) (.cells #[.string n3, .int .i64 t3, .int .i64 p3] 23))
  have hbb := hb.alloc hb.size (.cells #[.string n3, .int .i64 t3, .int .i64 p3] 23)
  have K0_2 := Lib.hid (show BoxO _ g0 x1 from (hbb.block _ K0_1.out.lt).trans K0_1.out)
  have K1_2 := Lib.hid (show BoxO _ g1 x2 from (hbb.block _ K1_1.out.lt).trans K1_1.out)
  have K2_2 := Lib.hid (show BoxO (u2.alloc (.cells #[.string n3, .int .i64 t3, .int .i64 p3] 23)) u2.heap.size x3 from by
    have h9 := World.alloc_heap_new u2 (.cells #[.string n3, .int .i64 t3, .int .i64 p3] 23)
    unfold BoxO
    rw [HE3.out]
    exact h9)
  clear hb hbb
  go_upto_region 4 with fail
  generalize u2.alloc (.cells #[.string n3, .int .i64 t3, .int .i64 p3] 23) = W2 at *
  generalize u2.heap.size = g2 at *
  go_wp2_with fail
  (with_reducible refine (HF1.out _ HB3.out).mono ?_)
  rintro ex u3 ⟨rfl, hb⟩
  rw [HX1.out.1, HX1.out.2.1, HX1.out.2.2]
  have HB4 := Lib.hid ((HB3.out.trans (hb.mono HB3.out.size)).alloc (Nat.le_trans HB3.out.size hb.size) (.cells #[.string n1, .int .i64 t1, .int .i64 p1] 23))
  have hbb := hb.alloc hb.size (.cells #[.string n1, .int .i64 t1, .int .i64 p1] 23)
  have K0_3 := Lib.hid (show BoxO _ g0 x1 from (hbb.block _ K0_2.out.lt).trans K0_2.out)
  have K1_3 := Lib.hid (show BoxO _ g1 x2 from (hbb.block _ K1_2.out.lt).trans K1_2.out)
  have K2_3 := Lib.hid (show BoxO _ g2 x3 from (hbb.block _ K2_2.out.lt).trans K2_2.out)
  have K3_3 := Lib.hid (show BoxO (u3.alloc (.cells #[.string n1, .int .i64 t1, .int .i64 p1] 23)) u3.heap.size x1 from by
    have h9 := World.alloc_heap_new u3 (.cells #[.string n1, .int .i64 t1, .int .i64 p1] 23)
    unfold BoxO
    rw [HE1.out]
    exact h9)
  clear hb hbb
  go_upto_region 5 with fail
  generalize u3.alloc (.cells #[.string n1, .int .i64 t1, .int .i64 p1] 23) = W3 at *
  generalize u3.heap.size = g3 at *
  go_wp2_with fail
  (with_reducible refine (HF2.out _ HB4.out).mono ?_)
  rintro ex u4 ⟨rfl, hb⟩
  rw [HX2.out.1, HX2.out.2.1, HX2.out.2.2]
  have HB5 := Lib.hid ((HB4.out.trans (hb.mono HB4.out.size)).alloc (Nat.le_trans HB4.out.size hb.size) (.cells #[.string n2, .int .i64 t2, .int .i64 p2] 23))
  have hbb := hb.alloc hb.size (.cells #[.string n2, .int .i64 t2, .int .i64 p2] 23)
  have K0_4 := Lib.hid (show BoxO _ g0 x1 from (hbb.block _ K0_3.out.lt).trans K0_3.out)
  have K1_4 := Lib.hid (show BoxO _ g1 x2 from (hbb.block _ K1_3.out.lt).trans K1_3.out)
  have K2_4 := Lib.hid (show BoxO _ g2 x3 from (hbb.block _ K2_3.out.lt).trans K2_3.out)
  have K3_4 := Lib.hid (show BoxO _ g3 x1 from (hbb.block _ K3_3.out.lt).trans K3_3.out)
  have K4_4 := Lib.hid (show BoxO (u4.alloc (.cells #[.string n2, .int .i64 t2, .int .i64 p2] 23)) u4.heap.size x2 from by
    have h9 := World.alloc_heap_new u4 (.cells #[.string n2, .int .i64 t2, .int .i64 p2] 23)
    unfold BoxO
    rw [HE2.out]
    exact h9)
  clear hb hbb
  go_upto_region 6 with fail
  generalize u4.alloc (.cells #[.string n2, .int .i64 t2, .int .i64 p2] 23) = W4 at *
  generalize u4.heap.size = g4 at *
  go_wp2_with fail
  (with_reducible refine (HF3.out _ HB5.out).mono ?_)
  rintro ex u5 ⟨rfl, hb⟩
  rw [HX3.out.1, HX3.out.2.1, HX3.out.2.2]
  have HB6 := Lib.hid ((HB5.out.trans (hb.mono HB5.out.size)).alloc (Nat.le_trans HB5.out.size hb.size) (.cells #[.string n3, .int .i64 t3, .int .i64 p3] 23))
  have hbb := hb.alloc hb.size (.cells #[.string n3, .int .i64 t3, .int .i64 p3] 23)
  have K0_5 := Lib.hid (show BoxO _ g0 x1 from (hbb.block _ K0_4.out.lt).trans K0_4.out)
  have K1_5 := Lib.hid (show BoxO _ g1 x2 from (hbb.block _ K1_4.out.lt).trans K1_4.out)
  have K2_5 := Lib.hid (show BoxO _ g2 x3 from (hbb.block _ K2_4.out.lt).trans K2_4.out)
  have K3_5 := Lib.hid (show BoxO _ g3 x1 from (hbb.block _ K3_4.out.lt).trans K3_4.out)
  have K4_5 := Lib.hid (show BoxO _ g4 x2 from (hbb.block _ K4_4.out.lt).trans K4_4.out)
  have K5_5 := Lib.hid (show BoxO (u5.alloc (.cells #[.string n3, .int .i64 t3, .int .i64 p3] 23)) u5.heap.size x3 from by
    have h9 := World.alloc_heap_new u5 (.cells #[.string n3, .int .i64 t3, .int .i64 p3] 23)
    unfold BoxO
    rw [HE3.out]
    exact h9)
  clear hb hbb
  go_upto_region 7 with fail
  generalize u5.alloc (.cells #[.string n3, .int .i64 t3, .int .i64 p3] 23) = W5 at *
  generalize u5.heap.size = g5 at *
  have c0 := K0_5.out.cells
  obtain ⟨e00, e01, e02⟩ : (⟨x1.n.toArray⟩ : ByteArray) = n1 ∧ x1.t = t1 ∧ x1.p = p1 := by
    have h9 := HE1.out
    unfold encO at h9
    simp at h9
    exact h9
  rw [e00, e01, e02] at c0
  clear e00 e01 e02
  obtain ⟨c00, c01, c02⟩ := c0
  have c1 := K1_5.out.cells
  obtain ⟨e10, e11, e12⟩ : (⟨x2.n.toArray⟩ : ByteArray) = n2 ∧ x2.t = t2 ∧ x2.p = p2 := by
    have h9 := HE2.out
    unfold encO at h9
    simp at h9
    exact h9
  rw [e10, e11, e12] at c1
  clear e10 e11 e12
  obtain ⟨c10, c11, c12⟩ := c1
  have c2 := K2_5.out.cells
  obtain ⟨e20, e21, e22⟩ : (⟨x3.n.toArray⟩ : ByteArray) = n3 ∧ x3.t = t3 ∧ x3.p = p3 := by
    have h9 := HE3.out
    unfold encO at h9
    simp at h9
    exact h9
  rw [e20, e21, e22] at c2
  clear e20 e21 e22
  obtain ⟨c20, c21, c22⟩ := c2
  have c3 := K3_5.out.cells
  obtain ⟨e30, e31, e32⟩ : (⟨x1.n.toArray⟩ : ByteArray) = n1 ∧ x1.t = t1 ∧ x1.p = p1 := by
    have h9 := HE1.out
    unfold encO at h9
    simp at h9
    exact h9
  rw [e30, e31, e32] at c3
  clear e30 e31 e32
  obtain ⟨c30, c31, c32⟩ := c3
  have c4 := K4_5.out.cells
  obtain ⟨e40, e41, e42⟩ : (⟨x2.n.toArray⟩ : ByteArray) = n2 ∧ x2.t = t2 ∧ x2.p = p2 := by
    have h9 := HE2.out
    unfold encO at h9
    simp at h9
    exact h9
  rw [e40, e41, e42] at c4
  clear e40 e41 e42
  obtain ⟨c40, c41, c42⟩ := c4
  have c5 := K5_5.out.cells
  obtain ⟨e50, e51, e52⟩ : (⟨x3.n.toArray⟩ : ByteArray) = n3 ∧ x3.t = t3 ∧ x3.p = p3 := by
    have h9 := HE3.out
    unfold encO at h9
    simp at h9
    exact h9
  rw [e50, e51, e52] at c5
  clear e50 e51 e52
  obtain ⟨c50, c51, c52⟩ := c5
  go_wp2_with fail
  (with_reducible refine (HS.out _ HB6.out).mono ?_)
  rintro ex u6 ⟨rfl, hb⟩
  have HB7 := Lib.hid (HB6.out.trans (hb.mono HB6.out.size))
  clear hb
  go_wp2_with fail
  (with_reducible refine (HRS.out _ HB7.out).mono ?_)
  rintro ex u7 ⟨rfl, hb⟩
  have HB8 := Lib.hid (HB7.out.trans (hb.mono HB7.out.size))
  clear hb
  go_wp2_with fail
  go_ret
  exact ⟨rfl, HB8.out⟩
end Go.Proofs.YtfdcponamkfcaaaDoor
