import Derived.Test.YtfdcponamkfcaaaDoorNm
namespace Go.Proofs.YtfdcponamkfcaaaDoor
open Go.RowKit Ho Go.Maps Go.Shelf Go.Sort Hb
set_option linter.unusedVariables false
set_option linter.unusedSimpArgs false
/-! ### Is -/
def isV (L : List OpV) (n : List UInt8) : Bool := (Ho.find L 1 n).isSome || (Ho.find L 2 n).isSome || (Ho.find L 3 n).isSome
set_option maxRecDepth 100000 in
set_option maxHeartbeats 4000000 in
theorem Is_any {w : World} {g b1 b2 b3 N : Nat} {L : List OpV} (h : TabAt w g b1 b2 b3 N L) {s : ByteArray} (hs : s.size ≤ maxLen) :
    Calls Tryd.prog 20 #[.pointer (some ⟨g, 0, none⟩), .string s] w fun e w' => e = .returned (.bool (isV L s.data.toList)) ∧ Below w.heap.size w w' := by
  have HF := Lib.hid (fun w1 (hb : Below w.heap.size w w1) (c : Nat) (hc : c < 3) => find_any (h.below' hb) hc hs)
  clear h hs
  obtain ⟨r1, hr1⟩ : ∃ r, Ho.find L 1 s.data.toList = r := ⟨_, rfl⟩
  obtain ⟨r2, hr2⟩ : ∃ r, Ho.find L 2 s.data.toList = r := ⟨_, rfl⟩
  obtain ⟨r3, hr3⟩ : ∃ r, Ho.find L 3 s.data.toList = r := ⟨_, rfl⟩
  have HC0 := Lib.hid (fun w1 (hb : Below w.heap.size w w1) => show Calls Tryd.prog 35 #[.pointer (some ⟨g, 0, none⟩), .int .i64 0, .string s] w1 (FindPost w1 r1) from by rw [← hr1]; exact HF.out w1 hb 0 (by omega))
  have HC1 := Lib.hid (fun w1 (hb : Below w.heap.size w w1) => show Calls Tryd.prog 35 #[.pointer (some ⟨g, 0, none⟩), .int .i64 1, .string s] w1 (FindPost w1 r2) from by rw [← hr2]; exact HF.out w1 hb 1 (by omega))
  have HC2 := Lib.hid (fun w1 (hb : Below w.heap.size w w1) => show Calls Tryd.prog 35 #[.pointer (some ⟨g, 0, none⟩), .int .i64 2, .string s] w1 (FindPost w1 r3) from by rw [← hr3]; exact HF.out w1 hb 2 (by omega))
  have HV := Lib.hid (show isV L s.data.toList = (r1.isSome || r2.isSome || r3.isSome) by unfold isV; rw [hr1, hr2, hr3])
  clear hr1 hr2 hr3 HF
  obtain ⟨v, hv⟩ : ∃ v, isV L s.data.toList = v := ⟨_, rfl⟩
  rw [hv] at HV ⊢
  clear hv
  go_enter Tryd.func20, Tryd.ntmps20
  go_wp2_with fail
  refine wp_loop_rounds 4 ?_
  rw [rounds_succ]
  go_wp2_with fail
  (with_reducible refine (HC0.out _ (Below.refl _ _)).mono ?_)
  rintro ex w1 ⟨rfl, hb1⟩
  obtain ⟨nm, xt, xp, hX⟩ := opV_parts (r1.getD zeroOp)
  rw [hX]
  clear hX
  obtain ⟨o1, ho1⟩ : ∃ k, r1.isSome = k := ⟨_, rfl⟩
  rw [ho1] at HV ⊢
  have HB1 := Lib.hid (hb1.alloc hb1.size (.cells #[.string nm, .int .i64 xt, .int .i64 xp] 23))
  clear hb1 ho1
  cases o1
  rotate_left
  · go_wp2
    go_ret
    exact ⟨by rw [HV.out]; rfl, HB1.out⟩
  go_wp2_with fail
  rw [rounds_succ]
  go_wp2_with fail
  (with_reducible refine (HC1.out _ HB1.out).mono ?_)
  rintro ex w2 ⟨rfl, hb2⟩
  obtain ⟨nm2, xt2, xp2, hX⟩ := opV_parts (r2.getD zeroOp)
  rw [hX]
  clear hX
  obtain ⟨o2, ho2⟩ : ∃ k, r2.isSome = k := ⟨_, rfl⟩
  rw [ho2] at HV ⊢
  have HB2 := Lib.hid ((HB1.out.trans (hb2.mono HB1.out.size)).alloc (Nat.le_trans HB1.out.size hb2.size) (.cells #[.string nm2, .int .i64 xt2, .int .i64 xp2] 23))
  clear hb2 ho2
  cases o2
  rotate_left
  · go_wp2
    go_ret
    exact ⟨by rw [HV.out]; rfl, HB2.out⟩
  go_wp2_with fail
  rw [rounds_succ]
  go_wp2_with fail
  (with_reducible refine (HC2.out _ HB2.out).mono ?_)
  rintro ex w3 ⟨rfl, hb3⟩
  obtain ⟨nm3, xt3, xp3, hX⟩ := opV_parts (r3.getD zeroOp)
  rw [hX]
  clear hX
  obtain ⟨o3, ho3⟩ : ∃ k, r3.isSome = k := ⟨_, rfl⟩
  rw [ho3] at HV ⊢
  have HB3 := Lib.hid ((HB2.out.trans (hb3.mono HB2.out.size)).alloc (Nat.le_trans HB2.out.size hb3.size) (.cells #[.string nm3, .int .i64 xt3, .int .i64 xp3] 23))
  clear hb3 ho3
  cases o3
  rotate_left
  · go_wp2
    go_ret
    exact ⟨by rw [HV.out]; rfl, HB3.out⟩
  go_wp2_with fail
  rw [rounds_succ]
  go_wp2
  go_ret
  exact ⟨by rw [HV.out]; rfl, HB3.out⟩
end Go.Proofs.YtfdcponamkfcaaaDoor
