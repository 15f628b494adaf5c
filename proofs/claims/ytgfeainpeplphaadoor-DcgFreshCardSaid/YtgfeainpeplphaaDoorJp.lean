import Derived.Test.YtgfeainpeplphaaDoorJo
import Derived.Test.YtgfeainpeplphaaDoorHi
import Derived.Test.YtgfeainpeplphaaDoorReg
namespace Go.Proofs.YtgfeainpeplphaaDoor
open Go.RowKit Hb Ht
set_option linter.unusedVariables false
set_option linter.unusedSimpArgs false
attribute [local go_sem] Oper.semAt_some
/-! ### the law's awake -/
theorem Rule_okL {w0 w : World} {t : Tm} {st : Value} {k v b : Int} {n m : List UInt8} {ts : List Tm} {nb mb : ByteArray} {q : Nat} (h1 : TAt w w.heap.size t st) (hU : UOk w0 w) (hcs : checkP t = 0) (hh : highB t = false) (hn : (⟨n.toArray⟩ : ByteArray) = nb) (hm : (⟨m.toArray⟩ : ByteArray) = mb) (hq : ts.length = q) (hr : ruleT t = .ok (.mk k n m b v ts)) :
    Calls Tryd.prog 9 #[valT t st] w fun e w' => ∃ A c, e = .returned (.tuple #[.agg #[.int .i64 k, .string nb, .string mb, .int .u64 b, .int .i64 v, .slice A q c], .nilIface]) ∧ TOwn w' (.mk k n m b v ts) (.slice A q c) w.heap.size w'.heap.size ∧ Below w.heap.size w w' := by
  refine (Rule_main h1 hU hcs).mono ?_
  rintro e w' (⟨h, _⟩ | ⟨_, hb, h⟩)
  · rw [hh] at h; cases h
  · rw [hr] at h
    obtain ⟨sg, rfl, ho⟩ := h
    obtain ⟨_, _, _, A, c, hs, _⟩ := TOwn.iff.1 ho
    change sg = .slice A ts.length c at hs
    rw [hq] at hs
    subst hs
    exact ⟨A, c, by rw [valT_mk hn hm], ho, hb⟩
theorem Rule_badL {w0 w : World} {t g : Tm} {st : Value} (h1 : TAt w w.heap.size t st) (hU : UOk w0 w) (hcs : checkP t = 0) (hh : highB t = false) (hr : ruleT t = .error g) :
    Calls Tryd.prog 9 #[valT t st] w fun e w' => ∃ bb, e = .returned (.tuple #[zeroTV, .iface 82 (.pointer (some ⟨bb, 0, none⟩))]) ∧ BallAt w' bb g ∧ Below w.heap.size w w' := by
  refine (Rule_main h1 hU hcs).mono ?_
  rintro e w' (⟨h, _⟩ | ⟨_, hb, h⟩)
  · rw [hh] at h; cases h
  · rw [hr] at h
    obtain ⟨bb, rfl, hball⟩ := h
    exact ⟨bb, rfl, hball, hb⟩
theorem Body_okL {w0 w : World} {t f d : Tm} {st sf sd : Value} {nx n' k v b : Int} {n m : List UInt8} {ts : List Tm} {nb mb : ByteArray} {q : Nat} (h1 : TAt w w.heap.size t st) (h2 : TAt w w.heap.size f sf) (h3 : TAt w w.heap.size d sd) (hU : UOk w0 w) (hcs : checksP [t, f, d] = 0) (hc : 0 ≤ nx ∧ nx ≤ 4611686018427387904) (hn : (⟨n.toArray⟩ : ByteArray) = nb) (hm : (⟨m.toArray⟩ : ByteArray) = mb) (hq : ts.length = q) (hr : bodyT t f d nx = .ok (.mk k n m b v ts, n')) :
    Calls Tryd.prog 16 #[valT t st, valT f sf, valT d sd, .int .i64 nx] w fun e w' => ∃ A c, e = .returned (.tuple #[.agg #[.int .i64 k, .string nb, .string mb, .int .u64 b, .int .i64 v, .slice A q c], .int .i64 n', .nilIface]) ∧ TOwn w' (.mk k n m b v ts) (.slice A q c) w.heap.size w'.heap.size ∧ Below w.heap.size w w' := by
  refine (Body_main h1 h2 h3 hU hcs hc).mono ?_
  rintro e w' ⟨hb, h⟩
  rw [hr] at h
  obtain ⟨sg, rfl, ho⟩ := h
  obtain ⟨_, _, _, A, c, hs, _⟩ := TOwn.iff.1 ho
  change sg = .slice A ts.length c at hs
  rw [hq] at hs
  subst hs
  exact ⟨A, c, by rw [valT_mk hn hm], ho, hb⟩
theorem TOwn.new {w : World} {t : Tm} {sl : Value} {lo : Nat} (h : TOwn w t sl lo w.heap.size) : TAt w w.heap.size t sl := (TOwn.atP t h).wide (fun b hb => hb.2)
theorem aw1 : ruleT (cmpT [45, 45, 62] [(atomT [97]), (cmpT [44] [(atomT [98]), (atomT [99])])]) = .ok (cmpT [58, 45] [(cmpT [97] [(varT 0), (varT 1)]), (cmpT [44] [(cmpT [98] [(varT 0), (varT 2)]), (cmpT [99] [(varT 2), (varT 1)])])]) := by rfl
theorem aw2 : ruleT (cmpT [45, 45, 62] [(varT 0), (atomT [98])]) = .error (atomT sInst) := by rfl
theorem aw3 : bodyT (cmpT [46] [(atomT [120]), (atomT [91, 93])]) (varT 4) (varT 5) 6 = .ok ((cmpT [61] [(varT 4), (cmpT [46] [(atomT [120]), (varT 5)])]), 6) := by rfl
theorem awc1 : checkP (cmpT [45, 45, 62] [(atomT [97]), (cmpT [44] [(atomT [98]), (atomT [99])])]) = 0 := by decide +kernel
theorem awc2 : checkP (cmpT [45, 45, 62] [(varT 0), (atomT [98])]) = 0 := by decide +kernel
theorem awc3 : checksP [(cmpT [46] [(atomT [120]), (atomT [91, 93])]), varT 4, varT 5] = 0 := by decide +kernel
theorem awh1 : highB (cmpT [45, 45, 62] [(atomT [97]), (cmpT [44] [(atomT [98]), (atomT [99])])]) = false := by decide +kernel
theorem awh2 : highB (cmpT [45, 45, 62] [(varT 0), (atomT [98])]) = false := by decide +kernel
set_option maxRecDepth 100000 in
set_option maxHeartbeats 16000000 in
theorem awake_any {w0 w : World} (hU : UOk w0 w) : Calls Tryd.prog 7 #[] w fun e w' => e = .returned (.bool true) ∧ Below w.heap.size w w' := by
  have HU := Lib.hid hU
  have KK := Lib.hid (Below.refl w.heap.size w)
  clear hU
  go_enter Tryd.func7, Tryd.ntmps7
  go_wp2_with fail
  (with_reducible refine (latom_any _ _).mono ?_)
  rintro e v1 ⟨rfl, hb⟩
  replace KK := Lib.hid (KK.out.trans ((hb).mono KK.out.size))
  clear hb
  go_wp2_with fail
  (with_reducible refine (latom_any _ _).mono ?_)
  rintro e v2 ⟨rfl, hb⟩
  replace KK := Lib.hid (KK.out.trans ((hb).mono KK.out.size))
  clear hb
  go_wp2_with fail
  (with_reducible refine (latom_any _ _).mono ?_)
  rintro e v3 ⟨rfl, hb⟩
  replace KK := Lib.hid (KK.out.trans ((hb).mono KK.out.size))
  clear hb
  go_wp2_with fail
  have hbA : Below v3.heap.size v3 (v3.alloc (.cells #[.int .i64 2, .string ⟨#[98]⟩, .string ⟨#[]⟩, .int .u64 0, .int .i64 0, .slice none 0 0, .int .i64 2, .string ⟨#[99]⟩, .string ⟨#[]⟩, .int .u64 0, .int .i64 0, .slice none 0 0] 25)) := (Below.refl _ _).alloc (Nat.le_refl _) _
  have hbu := built (w := v3) (P := fun b => b < v3.heap.size) (s := [44]) (n := 2) (cs := #[.int .i64 2, .string ⟨#[98]⟩, .string ⟨#[]⟩, .int .u64 0, .int .i64 0, .slice none 0 0, .int .i64 2, .string ⟨#[99]⟩, .string ⟨#[]⟩, .int .u64 0, .int .i64 0, .slice none 0 0]) (ps := [((atomT [98]), Value.slice none 0 0), ((atomT [99]), Value.slice none 0 0)]) rfl rfl (mem2 (atom_at _ _ (by decide)) (atom_at _ _ (by decide))) (fun b hb => hb) (by unfold maxArgs; omega) (by decide)
  have HBA := Lib.hid (And.intro hbA (And.intro hbu (show (v3.alloc (.cells #[.int .i64 2, .string ⟨#[98]⟩, .string ⟨#[]⟩, .int .u64 0, .int .i64 0, .slice none 0 0, .int .i64 2, .string ⟨#[99]⟩, .string ⟨#[]⟩, .int .u64 0, .int .i64 0, .slice none 0 0] 25)).heap.size = v3.heap.size + 1 by simp)))
  clear hbA hbu
  replace KK := Lib.hid (KK.out.trans ((HBA.out.1).mono KK.out.size))
  generalize (v3.alloc (.cells #[.int .i64 2, .string ⟨#[98]⟩, .string ⟨#[]⟩, .int .u64 0, .int .i64 0, .slice none 0 0, .int .i64 2, .string ⟨#[99]⟩, .string ⟨#[]⟩, .int .u64 0, .int .i64 0, .slice none 0 0] 25)) = v4 at *
  generalize v3.heap.size = q1 at *
  (with_reducible refine (lf_any _ _ _ _ _).mono ?_)
  rintro e v5 ⟨rfl, hb⟩
  have HT1 := Lib.hid (show TAt v5 v5.heap.size (cmpT [44] [(atomT [98]), (atomT [99])]) (.slice (some ⟨q1, 0, none⟩) 2 2) from TAt.any HBA.out.2.1 (fun b hb => by have := HBA.out.2.2; rcases hb with hb | hb <;> omega) hb)
  replace KK := Lib.hid (KK.out.trans ((hb).mono KK.out.size))
  clear hb HBA
  go_wp2_with fail
  have hbA : Below v5.heap.size v5 (v5.alloc (.cells #[.int .i64 2, .string ⟨#[97]⟩, .string ⟨#[]⟩, .int .u64 0, .int .i64 0, .slice none 0 0, .int .i64 5, .string ⟨#[44]⟩, .string ⟨#[]⟩, .int .u64 0, .int .i64 0, .slice (some ⟨q1, 0, none⟩) 2 2] 25)) := (Below.refl _ _).alloc (Nat.le_refl _) _
  have hbu := built (w := v5) (P := fun b => b < v5.heap.size) (s := [45, 45, 62]) (n := 2) (cs := #[.int .i64 2, .string ⟨#[97]⟩, .string ⟨#[]⟩, .int .u64 0, .int .i64 0, .slice none 0 0, .int .i64 5, .string ⟨#[44]⟩, .string ⟨#[]⟩, .int .u64 0, .int .i64 0, .slice (some ⟨q1, 0, none⟩) 2 2]) (ps := [((atomT [97]), Value.slice none 0 0), ((cmpT [44] [(atomT [98]), (atomT [99])]), Value.slice (some ⟨q1, 0, none⟩) 2 2)]) rfl rfl (mem2 (atom_at _ _ (by decide)) (HT1.out)) (fun b hb => hb) (by unfold maxArgs; omega) (by decide)
  have HBA := Lib.hid (And.intro hbA (And.intro hbu (show (v5.alloc (.cells #[.int .i64 2, .string ⟨#[97]⟩, .string ⟨#[]⟩, .int .u64 0, .int .i64 0, .slice none 0 0, .int .i64 5, .string ⟨#[44]⟩, .string ⟨#[]⟩, .int .u64 0, .int .i64 0, .slice (some ⟨q1, 0, none⟩) 2 2] 25)).heap.size = v5.heap.size + 1 by simp)))
  clear hbA hbu
  clear HT1
  replace KK := Lib.hid (KK.out.trans ((HBA.out.1).mono KK.out.size))
  generalize (v5.alloc (.cells #[.int .i64 2, .string ⟨#[97]⟩, .string ⟨#[]⟩, .int .u64 0, .int .i64 0, .slice none 0 0, .int .i64 5, .string ⟨#[44]⟩, .string ⟨#[]⟩, .int .u64 0, .int .i64 0, .slice (some ⟨q1, 0, none⟩) 2 2] 25)) = v6 at *
  generalize v5.heap.size = q2 at *
  (with_reducible refine (lf_any _ _ _ _ _).mono ?_)
  rintro e v7 ⟨rfl, hb⟩
  have HT2 := Lib.hid (show TAt v7 v7.heap.size (cmpT [45, 45, 62] [(atomT [97]), (cmpT [44] [(atomT [98]), (atomT [99])])]) (.slice (some ⟨q2, 0, none⟩) 2 2) from TAt.any HBA.out.2.1 (fun b hb => by have := HBA.out.2.2; rcases hb with hb | hb <;> omega) hb)
  replace KK := Lib.hid (KK.out.trans ((hb).mono KK.out.size))
  clear hb HBA
  go_wp2_with fail
  have hR := Rule_okL (w0 := w0) (nb := ⟨#[58, 45]⟩) (mb := ⟨#[]⟩) (q := 2) HT2.out (HU.out.below KK.out) awc1 awh1 rfl rfl rfl aw1
  rw [show valT (cmpT [45, 45, 62] [(atomT [97]), (cmpT [44] [(atomT [98]), (atomT [99])])]) (.slice (some ⟨q2, 0, none⟩) 2 2) = .agg #[.int .i64 5, .string ⟨#[45, 45, 62]⟩, .string ⟨#[]⟩, .int .u64 0, .int .i64 0, .slice (some ⟨q2, 0, none⟩) 2 2] from rfl] at hR
  (with_reducible refine hR.mono ?_)
  rintro e x1 ⟨A1, c1, rfl, ho, hb⟩
  have HA1 := Lib.hid (show TAt x1 x1.heap.size (cmpT [58, 45] [(cmpT [97] [(varT 0), (varT 1)]), (cmpT [44] [(cmpT [98] [(varT 0), (varT 2)]), (cmpT [99] [(varT 2), (varT 1)])])]) (.slice A1 2 c1) from TOwn.new ho)
  clear hR ho HT2
  replace KK := Lib.hid (KK.out.trans ((hb).mono KK.out.size))
  clear hb
  go_upto_region 2 with fail
  have hbA : Below x1.heap.size x1 (x1.alloc (.cells #[.int .i64 5, .string ⟨#[58, 45]⟩, .string ⟨#[]⟩, .int .u64 0, .int .i64 0, .slice A1 2 c1] 25)) := (Below.refl _ _).alloc (Nat.le_refl _) _
  have HX1 := Lib.hid (show TBox (x1.alloc (.cells #[.int .i64 5, .string ⟨#[58, 45]⟩, .string ⟨#[]⟩, .int .u64 0, .int .i64 0, .slice A1 2 c1] 25)) x1.heap.size (cmpT [58, 45] [(cmpT [97] [(varT 0), (varT 1)]), (cmpT [44] [(cmpT [98] [(varT 0), (varT 2)]), (cmpT [99] [(varT 2), (varT 1)])])]) (.slice A1 2 c1) from TBox.new x1 rfl rfl)
  replace HA1 := Lib.hid (TAt.any HA1.out (fun b hb => hb) hbA)
  replace KK := Lib.hid (KK.out.trans ((hbA).mono KK.out.size))
  clear hbA
  generalize (x1.alloc (.cells #[.int .i64 5, .string ⟨#[58, 45]⟩, .string ⟨#[]⟩, .int .u64 0, .int .i64 0, .slice A1 2 c1] 25)) = v8 at *
  generalize x1.heap.size = g1 at *
  go_wp2_with fail
  (with_reducible refine (lv_any _ _).mono ?_)
  rintro e v9 ⟨rfl, hb⟩
  replace HA1 := Lib.hid (TAt.any HA1.out (fun b hb => hb) hb)
  replace HX1 := Lib.hid (HX1.out.below (hb))
  replace KK := Lib.hid (KK.out.trans ((hb).mono KK.out.size))
  clear hb
  go_wp2_with fail
  (with_reducible refine (latom_any _ _).mono ?_)
  rintro e v10 ⟨rfl, hb⟩
  replace HA1 := Lib.hid (TAt.any HA1.out (fun b hb => hb) hb)
  replace HX1 := Lib.hid (HX1.out.below (hb))
  replace KK := Lib.hid (KK.out.trans ((hb).mono KK.out.size))
  clear hb
  go_wp2_with fail
  have hbA : Below v10.heap.size v10 (v10.alloc (.cells #[.int .i64 1, .string ⟨#[]⟩, .string ⟨#[]⟩, .int .u64 0, .int .i64 0, .slice none 0 0, .int .i64 2, .string ⟨#[98]⟩, .string ⟨#[]⟩, .int .u64 0, .int .i64 0, .slice none 0 0] 25)) := (Below.refl _ _).alloc (Nat.le_refl _) _
  have hbu := built (w := v10) (P := fun b => b < v10.heap.size) (s := [45, 45, 62]) (n := 2) (cs := #[.int .i64 1, .string ⟨#[]⟩, .string ⟨#[]⟩, .int .u64 0, .int .i64 0, .slice none 0 0, .int .i64 2, .string ⟨#[98]⟩, .string ⟨#[]⟩, .int .u64 0, .int .i64 0, .slice none 0 0]) (ps := [((varT 0), Value.slice none 0 0), ((atomT [98]), Value.slice none 0 0)]) rfl rfl (mem2 (var_at _ _ ⟨by omega, by omega⟩) (atom_at _ _ (by decide))) (fun b hb => hb) (by unfold maxArgs; omega) (by decide)
  have HBA := Lib.hid (And.intro hbA (And.intro hbu (show (v10.alloc (.cells #[.int .i64 1, .string ⟨#[]⟩, .string ⟨#[]⟩, .int .u64 0, .int .i64 0, .slice none 0 0, .int .i64 2, .string ⟨#[98]⟩, .string ⟨#[]⟩, .int .u64 0, .int .i64 0, .slice none 0 0] 25)).heap.size = v10.heap.size + 1 by simp)))
  clear hbA hbu
  replace HA1 := Lib.hid (TAt.any HA1.out (fun b hb => hb) HBA.out.1)
  replace HX1 := Lib.hid (HX1.out.below (HBA.out.1))
  replace KK := Lib.hid (KK.out.trans ((HBA.out.1).mono KK.out.size))
  generalize (v10.alloc (.cells #[.int .i64 1, .string ⟨#[]⟩, .string ⟨#[]⟩, .int .u64 0, .int .i64 0, .slice none 0 0, .int .i64 2, .string ⟨#[98]⟩, .string ⟨#[]⟩, .int .u64 0, .int .i64 0, .slice none 0 0] 25)) = v11 at *
  generalize v10.heap.size = q3 at *
  (with_reducible refine (lf_any _ _ _ _ _).mono ?_)
  rintro e v12 ⟨rfl, hb⟩
  have HT3 := Lib.hid (show TAt v12 v12.heap.size (cmpT [45, 45, 62] [(varT 0), (atomT [98])]) (.slice (some ⟨q3, 0, none⟩) 2 2) from TAt.any HBA.out.2.1 (fun b hb => by have := HBA.out.2.2; rcases hb with hb | hb <;> omega) hb)
  replace HA1 := Lib.hid (TAt.any HA1.out (fun b hb => hb) hb)
  replace HX1 := Lib.hid (HX1.out.below (hb))
  replace KK := Lib.hid (KK.out.trans ((hb).mono KK.out.size))
  clear hb HBA
  go_wp2_with fail
  have hR := Rule_badL (w0 := w0) HT3.out (HU.out.below KK.out) awc2 awh2 aw2
  rw [show valT (cmpT [45, 45, 62] [(varT 0), (atomT [98])]) (.slice (some ⟨q3, 0, none⟩) 2 2) = .agg #[.int .i64 5, .string ⟨#[45, 45, 62]⟩, .string ⟨#[]⟩, .int .u64 0, .int .i64 0, .slice (some ⟨q3, 0, none⟩) 2 2] from rfl, show zeroTV = .agg #[.int .i64 0, .string ⟨#[]⟩, .string ⟨#[]⟩, .int .u64 0, .int .i64 0, .slice none 0 0] from rfl] at hR
  (with_reducible refine hR.mono ?_)
  rintro e x2 ⟨bb, rfl, hball, hb⟩
  clear hR hball HT3
  replace HA1 := Lib.hid (TAt.any HA1.out (fun b hb => hb) hb)
  replace HX1 := Lib.hid (HX1.out.below (hb))
  replace KK := Lib.hid (KK.out.trans ((hb).mono KK.out.size))
  clear hb
  go_upto_region 3 with fail
  have hbA : Below x2.heap.size x2 (x2.alloc (.cells #[.int .i64 0, .string ⟨#[]⟩, .string ⟨#[]⟩, .int .u64 0, .int .i64 0, .slice none 0 0] 25)) := (Below.refl _ _).alloc (Nat.le_refl _) _
  replace HA1 := Lib.hid (TAt.any HA1.out (fun b hb => hb) hbA)
  replace HX1 := Lib.hid (HX1.out.below (hbA))
  replace KK := Lib.hid (KK.out.trans ((hbA).mono KK.out.size))
  clear hbA
  generalize (x2.alloc (.cells #[.int .i64 0, .string ⟨#[]⟩, .string ⟨#[]⟩, .int .u64 0, .int .i64 0, .slice none 0 0] 25)) = x3 at *
  go_wp2_with fail
  (with_reducible refine (latom_any _ _).mono ?_)
  rintro e v13 ⟨rfl, hb⟩
  replace HA1 := Lib.hid (TAt.any HA1.out (fun b hb => hb) hb)
  replace HX1 := Lib.hid (HX1.out.below (hb))
  replace KK := Lib.hid (KK.out.trans ((hb).mono KK.out.size))
  clear hb
  go_wp2_with fail
  (with_reducible refine (latom_any _ _).mono ?_)
  rintro e v14 ⟨rfl, hb⟩
  replace HA1 := Lib.hid (TAt.any HA1.out (fun b hb => hb) hb)
  replace HX1 := Lib.hid (HX1.out.below (hb))
  replace KK := Lib.hid (KK.out.trans ((hb).mono KK.out.size))
  clear hb
  go_wp2_with fail
  have hbA : Below v14.heap.size v14 (v14.alloc (.cells #[.int .i64 2, .string ⟨#[120]⟩, .string ⟨#[]⟩, .int .u64 0, .int .i64 0, .slice none 0 0, .int .i64 2, .string ⟨#[91, 93]⟩, .string ⟨#[]⟩, .int .u64 0, .int .i64 0, .slice none 0 0] 25)) := (Below.refl _ _).alloc (Nat.le_refl _) _
  have hbu := built (w := v14) (P := fun b => b < v14.heap.size) (s := [46]) (n := 2) (cs := #[.int .i64 2, .string ⟨#[120]⟩, .string ⟨#[]⟩, .int .u64 0, .int .i64 0, .slice none 0 0, .int .i64 2, .string ⟨#[91, 93]⟩, .string ⟨#[]⟩, .int .u64 0, .int .i64 0, .slice none 0 0]) (ps := [((atomT [120]), Value.slice none 0 0), ((atomT [91, 93]), Value.slice none 0 0)]) rfl rfl (mem2 (atom_at _ _ (by decide)) (atom_at _ _ (by decide))) (fun b hb => hb) (by unfold maxArgs; omega) (by decide)
  have HBA := Lib.hid (And.intro hbA (And.intro hbu (show (v14.alloc (.cells #[.int .i64 2, .string ⟨#[120]⟩, .string ⟨#[]⟩, .int .u64 0, .int .i64 0, .slice none 0 0, .int .i64 2, .string ⟨#[91, 93]⟩, .string ⟨#[]⟩, .int .u64 0, .int .i64 0, .slice none 0 0] 25)).heap.size = v14.heap.size + 1 by simp)))
  clear hbA hbu
  replace HA1 := Lib.hid (TAt.any HA1.out (fun b hb => hb) HBA.out.1)
  replace HX1 := Lib.hid (HX1.out.below (HBA.out.1))
  replace KK := Lib.hid (KK.out.trans ((HBA.out.1).mono KK.out.size))
  generalize (v14.alloc (.cells #[.int .i64 2, .string ⟨#[120]⟩, .string ⟨#[]⟩, .int .u64 0, .int .i64 0, .slice none 0 0, .int .i64 2, .string ⟨#[91, 93]⟩, .string ⟨#[]⟩, .int .u64 0, .int .i64 0, .slice none 0 0] 25)) = v15 at *
  generalize v14.heap.size = q4 at *
  (with_reducible refine (lf_any _ _ _ _ _).mono ?_)
  rintro e v16 ⟨rfl, hb⟩
  have HT4 := Lib.hid (show TAt v16 v16.heap.size (cmpT [46] [(atomT [120]), (atomT [91, 93])]) (.slice (some ⟨q4, 0, none⟩) 2 2) from TAt.any HBA.out.2.1 (fun b hb => by have := HBA.out.2.2; rcases hb with hb | hb <;> omega) hb)
  replace HA1 := Lib.hid (TAt.any HA1.out (fun b hb => hb) hb)
  replace HX1 := Lib.hid (HX1.out.below (hb))
  replace KK := Lib.hid (KK.out.trans ((hb).mono KK.out.size))
  clear hb HBA
  go_wp2_with fail
  (with_reducible refine (lv_any _ _).mono ?_)
  rintro e v17 ⟨rfl, hb⟩
  replace HA1 := Lib.hid (TAt.any HA1.out (fun b hb => hb) hb)
  replace HT4 := Lib.hid (TAt.any HT4.out (fun b hb => hb) hb)
  replace HX1 := Lib.hid (HX1.out.below (hb))
  replace KK := Lib.hid (KK.out.trans ((hb).mono KK.out.size))
  clear hb
  go_wp2_with fail
  (with_reducible refine (lv_any _ _).mono ?_)
  rintro e v18 ⟨rfl, hb⟩
  replace HA1 := Lib.hid (TAt.any HA1.out (fun b hb => hb) hb)
  replace HT4 := Lib.hid (TAt.any HT4.out (fun b hb => hb) hb)
  replace HX1 := Lib.hid (HX1.out.below (hb))
  replace KK := Lib.hid (KK.out.trans ((hb).mono KK.out.size))
  clear hb
  go_wp2_with fail
  have hR := Body_okL (w0 := w0) (nb := ⟨#[61]⟩) (mb := ⟨#[]⟩) (q := 2) HT4.out (var_at _ _ (n := 4) ⟨by omega, by omega⟩) (var_at _ _ (n := 5) ⟨by omega, by omega⟩) (HU.out.below KK.out) awc3 ⟨by omega, by omega⟩ rfl rfl rfl aw3
  rw [show valT (cmpT [46] [(atomT [120]), (atomT [91, 93])]) (.slice (some ⟨q4, 0, none⟩) 2 2) = .agg #[.int .i64 5, .string ⟨#[46]⟩, .string ⟨#[]⟩, .int .u64 0, .int .i64 0, .slice (some ⟨q4, 0, none⟩) 2 2] from rfl, show valT (varT 4) (.slice none 0 0) = .agg #[.int .i64 1, .string ⟨#[]⟩, .string ⟨#[]⟩, .int .u64 0, .int .i64 4, .slice none 0 0] from rfl, show valT (varT 5) (.slice none 0 0) = .agg #[.int .i64 1, .string ⟨#[]⟩, .string ⟨#[]⟩, .int .u64 0, .int .i64 5, .slice none 0 0] from rfl] at hR
  (with_reducible refine hR.mono ?_)
  rintro e x4 ⟨A5, c5, rfl, ho, hb⟩
  have HA5 := Lib.hid (show TAt x4 x4.heap.size (cmpT [61] [(varT 4), (cmpT [46] [(atomT [120]), (varT 5)])]) (.slice A5 2 c5) from TOwn.new ho)
  clear hR ho HT4
  replace HA1 := Lib.hid (TAt.any HA1.out (fun b hb => hb) hb)
  replace HX1 := Lib.hid (HX1.out.below (hb))
  replace KK := Lib.hid (KK.out.trans ((hb).mono KK.out.size))
  clear hb
  go_upto_region 4 with fail
  have hbA : Below x4.heap.size x4 (x4.alloc (.cells #[.int .i64 5, .string ⟨#[61]⟩, .string ⟨#[]⟩, .int .u64 0, .int .i64 0, .slice A5 2 c5] 25)) := (Below.refl _ _).alloc (Nat.le_refl _) _
  have HX5 := Lib.hid (show TBox (x4.alloc (.cells #[.int .i64 5, .string ⟨#[61]⟩, .string ⟨#[]⟩, .int .u64 0, .int .i64 0, .slice A5 2 c5] 25)) x4.heap.size (cmpT [61] [(varT 4), (cmpT [46] [(atomT [120]), (varT 5)])]) (.slice A5 2 c5) from TBox.new x4 rfl rfl)
  replace HA1 := Lib.hid (TAt.any HA1.out (fun b hb => hb) hbA)
  replace HA5 := Lib.hid (TAt.any HA5.out (fun b hb => hb) hbA)
  replace HX1 := Lib.hid (HX1.out.below (hbA))
  replace KK := Lib.hid (KK.out.trans ((hbA).mono KK.out.size))
  clear hbA
  generalize (x4.alloc (.cells #[.int .i64 5, .string ⟨#[61]⟩, .string ⟨#[]⟩, .int .u64 0, .int .i64 0, .slice A5 2 c5] 25)) = v19 at *
  generalize x4.heap.size = g5 at *
  have HSS := Lib.hid (show ∀ z, Below v19.heap.size v19 z → (z.cell? ⟨g1, 0, none⟩ = some (.int .i64 5) ∧ z.cell? ⟨g1, 1, none⟩ = some (.string ⟨#[58, 45]⟩) ∧ z.cell? ⟨g1, 2, none⟩ = some (.string ⟨#[]⟩) ∧ z.cell? ⟨g1, 3, none⟩ = some (.int .u64 0) ∧ z.cell? ⟨g1, 4, none⟩ = some (.int .i64 0) ∧ z.cell? ⟨g1, 5, none⟩ = some (.slice A1 2 c1)) from fun z hb => (HX1.out.below hb).cells rfl rfl)
  refine wp_region_wait (fun z => (z.cell? ⟨g1, 0, none⟩ = some (.int .i64 5) ∧ z.cell? ⟨g1, 1, none⟩ = some (.string ⟨#[58, 45]⟩) ∧ z.cell? ⟨g1, 2, none⟩ = some (.string ⟨#[]⟩) ∧ z.cell? ⟨g1, 3, none⟩ = some (.int .u64 0) ∧ z.cell? ⟨g1, 4, none⟩ = some (.int .i64 0) ∧ z.cell? ⟨g1, 5, none⟩ = some (.slice A1 2 c1))) 17 (by kernel_rfl) ?_
  change wpAnyW _ _ _ _ _ _ _ _ _ v19.drew
  have hbd := below_drew' v19
  have KB := Lib.hid (show Below v19.heap.size v19 v19.drew from hbd)
  replace HA1 := Lib.hid (TAt.any HA1.out (fun b hb => hb) hbd)
  replace HA5 := Lib.hid (TAt.any HA5.out (fun b hb => hb) hbd)
  replace HX1 := Lib.hid (HX1.out.below (hbd))
  replace HX5 := Lib.hid (HX5.out.below (hbd))
  replace KK := Lib.hid (KK.out.trans ((hbd).mono KK.out.size))
  clear hbd
  generalize v19.drew = v20 at *
  refine wpAnyW_take 17 (i := 0) (v := .agg #[.int .i64 5, .string ⟨#[58, 45]⟩, .string ⟨#[]⟩, .int .u64 0, .int .i64 0, .slice A1 2 c1]) rfl (by kernel_rfl) (by kernel_rfl) (by kernel_rfl) (by kernel_rfl) (fun _ _ _ h => h) (Or.inl ⟨by rfl, ?_⟩) (HSS.out _ KB.out) ?_
  · intro w5 hSw
    obtain ⟨p0, p1, p2, p3, p4, p5⟩ := hSw
    go_simp
  refine wpAnyW_one (i := 1) (by kernel_rfl) rfl (fun K hK => ?_)
  go_simp
  (with_reducible refine (lv_any _ _).mono ?_)
  rintro e v21 ⟨rfl, hb⟩
  replace HA1 := Lib.hid (TAt.any HA1.out (fun b hb => hb) hb)
  replace HA5 := Lib.hid (TAt.any HA5.out (fun b hb => hb) hb)
  replace HX1 := Lib.hid (HX1.out.below (hb))
  replace HX5 := Lib.hid (HX5.out.below (hb))
  replace KK := Lib.hid (KK.out.trans ((hb).mono KK.out.size))
  replace KB := Lib.hid (KB.out.trans ((hb).mono KB.out.size))
  clear hb
  refine hK.out _ _ (fun _ => HSS.out _ KB.out) ?_
  refine wpAnyW_one (i := 2) (by kernel_rfl) rfl (fun K hK => ?_)
  go_simp
  (with_reducible refine (lv_any _ _).mono ?_)
  rintro e v22 ⟨rfl, hb⟩
  replace HA1 := Lib.hid (TAt.any HA1.out (fun b hb => hb) hb)
  replace HA5 := Lib.hid (TAt.any HA5.out (fun b hb => hb) hb)
  replace HX1 := Lib.hid (HX1.out.below (hb))
  replace HX5 := Lib.hid (HX5.out.below (hb))
  replace KK := Lib.hid (KK.out.trans ((hb).mono KK.out.size))
  replace KB := Lib.hid (KB.out.trans ((hb).mono KB.out.size))
  clear hb
  refine hK.out _ _ (fun _ => HSS.out _ KB.out) ?_
  refine wpAnyW_one (i := 3) (by kernel_rfl) rfl (fun K hK => ?_)
  go_simp
  have hbA : Below v22.heap.size v22 (v22.alloc (.cells #[.int .i64 1, .string ⟨#[]⟩, .string ⟨#[]⟩, .int .u64 0, .int .i64 0, .slice none 0 0, .int .i64 1, .string ⟨#[]⟩, .string ⟨#[]⟩, .int .u64 0, .int .i64 1, .slice none 0 0] 25)) := (Below.refl _ _).alloc (Nat.le_refl _) _
  have hbu := built (w := v22) (P := fun b => b < v22.heap.size) (s := [97]) (n := 2) (cs := #[.int .i64 1, .string ⟨#[]⟩, .string ⟨#[]⟩, .int .u64 0, .int .i64 0, .slice none 0 0, .int .i64 1, .string ⟨#[]⟩, .string ⟨#[]⟩, .int .u64 0, .int .i64 1, .slice none 0 0]) (ps := [((varT 0), Value.slice none 0 0), ((varT 1), Value.slice none 0 0)]) rfl rfl (mem2 (var_at _ _ ⟨by omega, by omega⟩) (var_at _ _ ⟨by omega, by omega⟩)) (fun b hb => hb) (by unfold maxArgs; omega) (by decide)
  have HBA := Lib.hid (And.intro hbA (And.intro hbu (show (v22.alloc (.cells #[.int .i64 1, .string ⟨#[]⟩, .string ⟨#[]⟩, .int .u64 0, .int .i64 0, .slice none 0 0, .int .i64 1, .string ⟨#[]⟩, .string ⟨#[]⟩, .int .u64 0, .int .i64 1, .slice none 0 0] 25)).heap.size = v22.heap.size + 1 by simp)))
  clear hbA hbu
  replace HA1 := Lib.hid (TAt.any HA1.out (fun b hb => hb) HBA.out.1)
  replace HA5 := Lib.hid (TAt.any HA5.out (fun b hb => hb) HBA.out.1)
  replace HX1 := Lib.hid (HX1.out.below (HBA.out.1))
  replace HX5 := Lib.hid (HX5.out.below (HBA.out.1))
  replace KK := Lib.hid (KK.out.trans ((HBA.out.1).mono KK.out.size))
  replace KB := Lib.hid (KB.out.trans ((HBA.out.1).mono KB.out.size))
  refine hK.out _ _ (fun _ => HSS.out _ KB.out) ?_
  generalize (v22.alloc (.cells #[.int .i64 1, .string ⟨#[]⟩, .string ⟨#[]⟩, .int .u64 0, .int .i64 0, .slice none 0 0, .int .i64 1, .string ⟨#[]⟩, .string ⟨#[]⟩, .int .u64 0, .int .i64 1, .slice none 0 0] 25)) = v23 at *
  generalize v22.heap.size = q5 at *
  refine wpAnyW_one (i := 4) (by kernel_rfl) rfl (fun K hK => ?_)
  go_simp
  (with_reducible refine (lf_any _ _ _ _ _).mono ?_)
  rintro e v24 ⟨rfl, hb⟩
  have HT5 := Lib.hid (show TAt v24 v24.heap.size (cmpT [97] [(varT 0), (varT 1)]) (.slice (some ⟨q5, 0, none⟩) 2 2) from TAt.any HBA.out.2.1 (fun b hb => by have := HBA.out.2.2; rcases hb with hb | hb <;> omega) hb)
  replace HA1 := Lib.hid (TAt.any HA1.out (fun b hb => hb) hb)
  replace HA5 := Lib.hid (TAt.any HA5.out (fun b hb => hb) hb)
  replace HX1 := Lib.hid (HX1.out.below (hb))
  replace HX5 := Lib.hid (HX5.out.below (hb))
  replace KK := Lib.hid (KK.out.trans ((hb).mono KK.out.size))
  replace KB := Lib.hid (KB.out.trans ((hb).mono KB.out.size))
  clear hb HBA
  refine hK.out _ _ (fun _ => HSS.out _ KB.out) ?_
  refine wpAnyW_one (i := 5) (by kernel_rfl) rfl (fun K hK => ?_)
  go_simp
  (with_reducible refine (lv_any _ _).mono ?_)
  rintro e v25 ⟨rfl, hb⟩
  replace HA1 := Lib.hid (TAt.any HA1.out (fun b hb => hb) hb)
  replace HA5 := Lib.hid (TAt.any HA5.out (fun b hb => hb) hb)
  replace HT5 := Lib.hid (TAt.any HT5.out (fun b hb => hb) hb)
  replace HX1 := Lib.hid (HX1.out.below (hb))
  replace HX5 := Lib.hid (HX5.out.below (hb))
  replace KK := Lib.hid (KK.out.trans ((hb).mono KK.out.size))
  replace KB := Lib.hid (KB.out.trans ((hb).mono KB.out.size))
  clear hb
  refine hK.out _ _ (fun _ => HSS.out _ KB.out) ?_
  refine wpAnyW_one (i := 6) (by kernel_rfl) rfl (fun K hK => ?_)
  go_simp
  (with_reducible refine (lv_any _ _).mono ?_)
  rintro e v26 ⟨rfl, hb⟩
  replace HA1 := Lib.hid (TAt.any HA1.out (fun b hb => hb) hb)
  replace HA5 := Lib.hid (TAt.any HA5.out (fun b hb => hb) hb)
  replace HT5 := Lib.hid (TAt.any HT5.out (fun b hb => hb) hb)
  replace HX1 := Lib.hid (HX1.out.below (hb))
  replace HX5 := Lib.hid (HX5.out.below (hb))
  replace KK := Lib.hid (KK.out.trans ((hb).mono KK.out.size))
  replace KB := Lib.hid (KB.out.trans ((hb).mono KB.out.size))
  clear hb
  refine hK.out _ _ (fun _ => HSS.out _ KB.out) ?_
  refine wpAnyW_one (i := 7) (by kernel_rfl) rfl (fun K hK => ?_)
  go_simp
  have hbA : Below v26.heap.size v26 (v26.alloc (.cells #[.int .i64 1, .string ⟨#[]⟩, .string ⟨#[]⟩, .int .u64 0, .int .i64 0, .slice none 0 0, .int .i64 1, .string ⟨#[]⟩, .string ⟨#[]⟩, .int .u64 0, .int .i64 2, .slice none 0 0] 25)) := (Below.refl _ _).alloc (Nat.le_refl _) _
  have hbu := built (w := v26) (P := fun b => b < v26.heap.size) (s := [98]) (n := 2) (cs := #[.int .i64 1, .string ⟨#[]⟩, .string ⟨#[]⟩, .int .u64 0, .int .i64 0, .slice none 0 0, .int .i64 1, .string ⟨#[]⟩, .string ⟨#[]⟩, .int .u64 0, .int .i64 2, .slice none 0 0]) (ps := [((varT 0), Value.slice none 0 0), ((varT 2), Value.slice none 0 0)]) rfl rfl (mem2 (var_at _ _ ⟨by omega, by omega⟩) (var_at _ _ ⟨by omega, by omega⟩)) (fun b hb => hb) (by unfold maxArgs; omega) (by decide)
  have HBA := Lib.hid (And.intro hbA (And.intro hbu (show (v26.alloc (.cells #[.int .i64 1, .string ⟨#[]⟩, .string ⟨#[]⟩, .int .u64 0, .int .i64 0, .slice none 0 0, .int .i64 1, .string ⟨#[]⟩, .string ⟨#[]⟩, .int .u64 0, .int .i64 2, .slice none 0 0] 25)).heap.size = v26.heap.size + 1 by simp)))
  clear hbA hbu
  replace HA1 := Lib.hid (TAt.any HA1.out (fun b hb => hb) HBA.out.1)
  replace HA5 := Lib.hid (TAt.any HA5.out (fun b hb => hb) HBA.out.1)
  replace HT5 := Lib.hid (TAt.any HT5.out (fun b hb => hb) HBA.out.1)
  replace HX1 := Lib.hid (HX1.out.below (HBA.out.1))
  replace HX5 := Lib.hid (HX5.out.below (HBA.out.1))
  replace KK := Lib.hid (KK.out.trans ((HBA.out.1).mono KK.out.size))
  replace KB := Lib.hid (KB.out.trans ((HBA.out.1).mono KB.out.size))
  refine hK.out _ _ (fun _ => HSS.out _ KB.out) ?_
  generalize (v26.alloc (.cells #[.int .i64 1, .string ⟨#[]⟩, .string ⟨#[]⟩, .int .u64 0, .int .i64 0, .slice none 0 0, .int .i64 1, .string ⟨#[]⟩, .string ⟨#[]⟩, .int .u64 0, .int .i64 2, .slice none 0 0] 25)) = v27 at *
  generalize v26.heap.size = q6 at *
  refine wpAnyW_one (i := 8) (by kernel_rfl) rfl (fun K hK => ?_)
  go_simp
  (with_reducible refine (lf_any _ _ _ _ _).mono ?_)
  rintro e v28 ⟨rfl, hb⟩
  have HT6 := Lib.hid (show TAt v28 v28.heap.size (cmpT [98] [(varT 0), (varT 2)]) (.slice (some ⟨q6, 0, none⟩) 2 2) from TAt.any HBA.out.2.1 (fun b hb => by have := HBA.out.2.2; rcases hb with hb | hb <;> omega) hb)
  replace HA1 := Lib.hid (TAt.any HA1.out (fun b hb => hb) hb)
  replace HA5 := Lib.hid (TAt.any HA5.out (fun b hb => hb) hb)
  replace HT5 := Lib.hid (TAt.any HT5.out (fun b hb => hb) hb)
  replace HX1 := Lib.hid (HX1.out.below (hb))
  replace HX5 := Lib.hid (HX5.out.below (hb))
  replace KK := Lib.hid (KK.out.trans ((hb).mono KK.out.size))
  replace KB := Lib.hid (KB.out.trans ((hb).mono KB.out.size))
  clear hb HBA
  refine hK.out _ _ (fun _ => HSS.out _ KB.out) ?_
  refine wpAnyW_one (i := 9) (by kernel_rfl) rfl (fun K hK => ?_)
  go_simp
  (with_reducible refine (lv_any _ _).mono ?_)
  rintro e v29 ⟨rfl, hb⟩
  replace HA1 := Lib.hid (TAt.any HA1.out (fun b hb => hb) hb)
  replace HA5 := Lib.hid (TAt.any HA5.out (fun b hb => hb) hb)
  replace HT5 := Lib.hid (TAt.any HT5.out (fun b hb => hb) hb)
  replace HT6 := Lib.hid (TAt.any HT6.out (fun b hb => hb) hb)
  replace HX1 := Lib.hid (HX1.out.below (hb))
  replace HX5 := Lib.hid (HX5.out.below (hb))
  replace KK := Lib.hid (KK.out.trans ((hb).mono KK.out.size))
  replace KB := Lib.hid (KB.out.trans ((hb).mono KB.out.size))
  clear hb
  refine hK.out _ _ (fun _ => HSS.out _ KB.out) ?_
  refine wpAnyW_one (i := 10) (by kernel_rfl) rfl (fun K hK => ?_)
  go_simp
  (with_reducible refine (lv_any _ _).mono ?_)
  rintro e v30 ⟨rfl, hb⟩
  replace HA1 := Lib.hid (TAt.any HA1.out (fun b hb => hb) hb)
  replace HA5 := Lib.hid (TAt.any HA5.out (fun b hb => hb) hb)
  replace HT5 := Lib.hid (TAt.any HT5.out (fun b hb => hb) hb)
  replace HT6 := Lib.hid (TAt.any HT6.out (fun b hb => hb) hb)
  replace HX1 := Lib.hid (HX1.out.below (hb))
  replace HX5 := Lib.hid (HX5.out.below (hb))
  replace KK := Lib.hid (KK.out.trans ((hb).mono KK.out.size))
  replace KB := Lib.hid (KB.out.trans ((hb).mono KB.out.size))
  clear hb
  refine hK.out _ _ (fun _ => HSS.out _ KB.out) ?_
  refine wpAnyW_one (i := 11) (by kernel_rfl) rfl (fun K hK => ?_)
  go_simp
  have hbA : Below v30.heap.size v30 (v30.alloc (.cells #[.int .i64 1, .string ⟨#[]⟩, .string ⟨#[]⟩, .int .u64 0, .int .i64 2, .slice none 0 0, .int .i64 1, .string ⟨#[]⟩, .string ⟨#[]⟩, .int .u64 0, .int .i64 1, .slice none 0 0] 25)) := (Below.refl _ _).alloc (Nat.le_refl _) _
  have hbu := built (w := v30) (P := fun b => b < v30.heap.size) (s := [99]) (n := 2) (cs := #[.int .i64 1, .string ⟨#[]⟩, .string ⟨#[]⟩, .int .u64 0, .int .i64 2, .slice none 0 0, .int .i64 1, .string ⟨#[]⟩, .string ⟨#[]⟩, .int .u64 0, .int .i64 1, .slice none 0 0]) (ps := [((varT 2), Value.slice none 0 0), ((varT 1), Value.slice none 0 0)]) rfl rfl (mem2 (var_at _ _ ⟨by omega, by omega⟩) (var_at _ _ ⟨by omega, by omega⟩)) (fun b hb => hb) (by unfold maxArgs; omega) (by decide)
  have HBA := Lib.hid (And.intro hbA (And.intro hbu (show (v30.alloc (.cells #[.int .i64 1, .string ⟨#[]⟩, .string ⟨#[]⟩, .int .u64 0, .int .i64 2, .slice none 0 0, .int .i64 1, .string ⟨#[]⟩, .string ⟨#[]⟩, .int .u64 0, .int .i64 1, .slice none 0 0] 25)).heap.size = v30.heap.size + 1 by simp)))
  clear hbA hbu
  replace HA1 := Lib.hid (TAt.any HA1.out (fun b hb => hb) HBA.out.1)
  replace HA5 := Lib.hid (TAt.any HA5.out (fun b hb => hb) HBA.out.1)
  replace HT5 := Lib.hid (TAt.any HT5.out (fun b hb => hb) HBA.out.1)
  replace HT6 := Lib.hid (TAt.any HT6.out (fun b hb => hb) HBA.out.1)
  replace HX1 := Lib.hid (HX1.out.below (HBA.out.1))
  replace HX5 := Lib.hid (HX5.out.below (HBA.out.1))
  replace KK := Lib.hid (KK.out.trans ((HBA.out.1).mono KK.out.size))
  replace KB := Lib.hid (KB.out.trans ((HBA.out.1).mono KB.out.size))
  refine hK.out _ _ (fun _ => HSS.out _ KB.out) ?_
  generalize (v30.alloc (.cells #[.int .i64 1, .string ⟨#[]⟩, .string ⟨#[]⟩, .int .u64 0, .int .i64 2, .slice none 0 0, .int .i64 1, .string ⟨#[]⟩, .string ⟨#[]⟩, .int .u64 0, .int .i64 1, .slice none 0 0] 25)) = v31 at *
  generalize v30.heap.size = q7 at *
  refine wpAnyW_one (i := 12) (by kernel_rfl) rfl (fun K hK => ?_)
  go_simp
  (with_reducible refine (lf_any _ _ _ _ _).mono ?_)
  rintro e v32 ⟨rfl, hb⟩
  have HT7 := Lib.hid (show TAt v32 v32.heap.size (cmpT [99] [(varT 2), (varT 1)]) (.slice (some ⟨q7, 0, none⟩) 2 2) from TAt.any HBA.out.2.1 (fun b hb => by have := HBA.out.2.2; rcases hb with hb | hb <;> omega) hb)
  replace HA1 := Lib.hid (TAt.any HA1.out (fun b hb => hb) hb)
  replace HA5 := Lib.hid (TAt.any HA5.out (fun b hb => hb) hb)
  replace HT5 := Lib.hid (TAt.any HT5.out (fun b hb => hb) hb)
  replace HT6 := Lib.hid (TAt.any HT6.out (fun b hb => hb) hb)
  replace HX1 := Lib.hid (HX1.out.below (hb))
  replace HX5 := Lib.hid (HX5.out.below (hb))
  replace KK := Lib.hid (KK.out.trans ((hb).mono KK.out.size))
  replace KB := Lib.hid (KB.out.trans ((hb).mono KB.out.size))
  clear hb HBA
  refine hK.out _ _ (fun _ => HSS.out _ KB.out) ?_
  refine wpAnyW_one (i := 13) (by kernel_rfl) rfl (fun K hK => ?_)
  go_simp
  have hbA : Below v32.heap.size v32 (v32.alloc (.cells #[.int .i64 5, .string ⟨#[98]⟩, .string ⟨#[]⟩, .int .u64 0, .int .i64 0, .slice (some ⟨q6, 0, none⟩) 2 2, .int .i64 5, .string ⟨#[99]⟩, .string ⟨#[]⟩, .int .u64 0, .int .i64 0, .slice (some ⟨q7, 0, none⟩) 2 2] 25)) := (Below.refl _ _).alloc (Nat.le_refl _) _
  have hbu := built (w := v32) (P := fun b => b < v32.heap.size) (s := [44]) (n := 2) (cs := #[.int .i64 5, .string ⟨#[98]⟩, .string ⟨#[]⟩, .int .u64 0, .int .i64 0, .slice (some ⟨q6, 0, none⟩) 2 2, .int .i64 5, .string ⟨#[99]⟩, .string ⟨#[]⟩, .int .u64 0, .int .i64 0, .slice (some ⟨q7, 0, none⟩) 2 2]) (ps := [((cmpT [98] [(varT 0), (varT 2)]), Value.slice (some ⟨q6, 0, none⟩) 2 2), ((cmpT [99] [(varT 2), (varT 1)]), Value.slice (some ⟨q7, 0, none⟩) 2 2)]) rfl rfl (mem2 (HT6.out) (HT7.out)) (fun b hb => hb) (by unfold maxArgs; omega) (by decide)
  have HBA := Lib.hid (And.intro hbA (And.intro hbu (show (v32.alloc (.cells #[.int .i64 5, .string ⟨#[98]⟩, .string ⟨#[]⟩, .int .u64 0, .int .i64 0, .slice (some ⟨q6, 0, none⟩) 2 2, .int .i64 5, .string ⟨#[99]⟩, .string ⟨#[]⟩, .int .u64 0, .int .i64 0, .slice (some ⟨q7, 0, none⟩) 2 2] 25)).heap.size = v32.heap.size + 1 by simp)))
  clear hbA hbu
  clear HT6
  clear HT7
  replace HA1 := Lib.hid (TAt.any HA1.out (fun b hb => hb) HBA.out.1)
  replace HA5 := Lib.hid (TAt.any HA5.out (fun b hb => hb) HBA.out.1)
  replace HT5 := Lib.hid (TAt.any HT5.out (fun b hb => hb) HBA.out.1)
  replace HX1 := Lib.hid (HX1.out.below (HBA.out.1))
  replace HX5 := Lib.hid (HX5.out.below (HBA.out.1))
  replace KK := Lib.hid (KK.out.trans ((HBA.out.1).mono KK.out.size))
  replace KB := Lib.hid (KB.out.trans ((HBA.out.1).mono KB.out.size))
  refine hK.out _ _ (fun _ => HSS.out _ KB.out) ?_
  generalize (v32.alloc (.cells #[.int .i64 5, .string ⟨#[98]⟩, .string ⟨#[]⟩, .int .u64 0, .int .i64 0, .slice (some ⟨q6, 0, none⟩) 2 2, .int .i64 5, .string ⟨#[99]⟩, .string ⟨#[]⟩, .int .u64 0, .int .i64 0, .slice (some ⟨q7, 0, none⟩) 2 2] 25)) = v33 at *
  generalize v32.heap.size = q8 at *
  refine wpAnyW_one (i := 14) (by kernel_rfl) rfl (fun K hK => ?_)
  go_simp
  (with_reducible refine (lf_any _ _ _ _ _).mono ?_)
  rintro e v34 ⟨rfl, hb⟩
  have HT8 := Lib.hid (show TAt v34 v34.heap.size (cmpT [44] [(cmpT [98] [(varT 0), (varT 2)]), (cmpT [99] [(varT 2), (varT 1)])]) (.slice (some ⟨q8, 0, none⟩) 2 2) from TAt.any HBA.out.2.1 (fun b hb => by have := HBA.out.2.2; rcases hb with hb | hb <;> omega) hb)
  replace HA1 := Lib.hid (TAt.any HA1.out (fun b hb => hb) hb)
  replace HA5 := Lib.hid (TAt.any HA5.out (fun b hb => hb) hb)
  replace HT5 := Lib.hid (TAt.any HT5.out (fun b hb => hb) hb)
  replace HX1 := Lib.hid (HX1.out.below (hb))
  replace HX5 := Lib.hid (HX5.out.below (hb))
  replace KK := Lib.hid (KK.out.trans ((hb).mono KK.out.size))
  replace KB := Lib.hid (KB.out.trans ((hb).mono KB.out.size))
  clear hb HBA
  refine hK.out _ _ (fun _ => HSS.out _ KB.out) ?_
  refine wpAnyW_one (i := 15) (by kernel_rfl) rfl (fun K hK => ?_)
  go_simp
  have hbA : Below v34.heap.size v34 (v34.alloc (.cells #[.int .i64 5, .string ⟨#[97]⟩, .string ⟨#[]⟩, .int .u64 0, .int .i64 0, .slice (some ⟨q5, 0, none⟩) 2 2, .int .i64 5, .string ⟨#[44]⟩, .string ⟨#[]⟩, .int .u64 0, .int .i64 0, .slice (some ⟨q8, 0, none⟩) 2 2] 25)) := (Below.refl _ _).alloc (Nat.le_refl _) _
  have hbu := built (w := v34) (P := fun b => b < v34.heap.size) (s := [58, 45]) (n := 2) (cs := #[.int .i64 5, .string ⟨#[97]⟩, .string ⟨#[]⟩, .int .u64 0, .int .i64 0, .slice (some ⟨q5, 0, none⟩) 2 2, .int .i64 5, .string ⟨#[44]⟩, .string ⟨#[]⟩, .int .u64 0, .int .i64 0, .slice (some ⟨q8, 0, none⟩) 2 2]) (ps := [((cmpT [97] [(varT 0), (varT 1)]), Value.slice (some ⟨q5, 0, none⟩) 2 2), ((cmpT [44] [(cmpT [98] [(varT 0), (varT 2)]), (cmpT [99] [(varT 2), (varT 1)])]), Value.slice (some ⟨q8, 0, none⟩) 2 2)]) rfl rfl (mem2 (HT5.out) (HT8.out)) (fun b hb => hb) (by unfold maxArgs; omega) (by decide)
  have HBA := Lib.hid (And.intro hbA (And.intro hbu (show (v34.alloc (.cells #[.int .i64 5, .string ⟨#[97]⟩, .string ⟨#[]⟩, .int .u64 0, .int .i64 0, .slice (some ⟨q5, 0, none⟩) 2 2, .int .i64 5, .string ⟨#[44]⟩, .string ⟨#[]⟩, .int .u64 0, .int .i64 0, .slice (some ⟨q8, 0, none⟩) 2 2] 25)).heap.size = v34.heap.size + 1 by simp)))
  clear hbA hbu
  clear HT5
  clear HT8
  replace HA1 := Lib.hid (TAt.any HA1.out (fun b hb => hb) HBA.out.1)
  replace HA5 := Lib.hid (TAt.any HA5.out (fun b hb => hb) HBA.out.1)
  replace HX1 := Lib.hid (HX1.out.below (HBA.out.1))
  replace HX5 := Lib.hid (HX5.out.below (HBA.out.1))
  replace KK := Lib.hid (KK.out.trans ((HBA.out.1).mono KK.out.size))
  replace KB := Lib.hid (KB.out.trans ((HBA.out.1).mono KB.out.size))
  refine hK.out _ _ (fun _ => HSS.out _ KB.out) ?_
  generalize (v34.alloc (.cells #[.int .i64 5, .string ⟨#[97]⟩, .string ⟨#[]⟩, .int .u64 0, .int .i64 0, .slice (some ⟨q5, 0, none⟩) 2 2, .int .i64 5, .string ⟨#[44]⟩, .string ⟨#[]⟩, .int .u64 0, .int .i64 0, .slice (some ⟨q8, 0, none⟩) 2 2] 25)) = v35 at *
  generalize v34.heap.size = q9 at *
  refine wpAnyW_one (i := 16) (by kernel_rfl) rfl (fun K hK => ?_)
  go_simp
  (with_reducible refine (lf_any _ _ _ _ _).mono ?_)
  rintro e v36 ⟨rfl, hb⟩
  have HT9 := Lib.hid (show TAt v36 v36.heap.size (cmpT [58, 45] [(cmpT [97] [(varT 0), (varT 1)]), (cmpT [44] [(cmpT [98] [(varT 0), (varT 2)]), (cmpT [99] [(varT 2), (varT 1)])])]) (.slice (some ⟨q9, 0, none⟩) 2 2) from TAt.any HBA.out.2.1 (fun b hb => by have := HBA.out.2.2; rcases hb with hb | hb <;> omega) hb)
  replace HA1 := Lib.hid (TAt.any HA1.out (fun b hb => hb) hb)
  replace HA5 := Lib.hid (TAt.any HA5.out (fun b hb => hb) hb)
  replace HX1 := Lib.hid (HX1.out.below (hb))
  replace HX5 := Lib.hid (HX5.out.below (hb))
  replace KK := Lib.hid (KK.out.trans ((hb).mono KK.out.size))
  replace KB := Lib.hid (KB.out.trans ((hb).mono KB.out.size))
  clear hb HBA
  refine hK.out _ _ (fun _ => HSS.out _ KB.out) ?_
  refine wpAnyW_one (i := 17) (by kernel_rfl) rfl (fun K hK => ?_)
  go_simp
  have hR := Same_any (cmpT [58, 45] [(cmpT [97] [(varT 0), (varT 1)]), (cmpT [44] [(cmpT [98] [(varT 0), (varT 2)]), (cmpT [99] [(varT 2), (varT 1)])])]) _ _ _ HA1.out HT9.out
  rw [show valT (cmpT [58, 45] [(cmpT [97] [(varT 0), (varT 1)]), (cmpT [44] [(cmpT [98] [(varT 0), (varT 2)]), (cmpT [99] [(varT 2), (varT 1)])])]) (.slice A1 2 c1) = .agg #[.int .i64 5, .string ⟨#[58, 45]⟩, .string ⟨#[]⟩, .int .u64 0, .int .i64 0, .slice A1 2 c1] from rfl, show valT (cmpT [58, 45] [(cmpT [97] [(varT 0), (varT 1)]), (cmpT [44] [(cmpT [98] [(varT 0), (varT 2)]), (cmpT [99] [(varT 2), (varT 1)])])]) (.slice (some ⟨q9, 0, none⟩) 2 2) = .agg #[.int .i64 5, .string ⟨#[58, 45]⟩, .string ⟨#[]⟩, .int .u64 0, .int .i64 0, .slice (some ⟨q9, 0, none⟩) 2 2] from rfl] at hR
  (with_reducible refine hR.mono ?_)
  rintro e v37 ⟨rfl, hb⟩
  clear hR HT9
  replace HA1 := Lib.hid (TAt.any HA1.out (fun b hb => hb) hb)
  replace HA5 := Lib.hid (TAt.any HA5.out (fun b hb => hb) hb)
  replace HX1 := Lib.hid (HX1.out.below (hb))
  replace HX5 := Lib.hid (HX5.out.below (hb))
  replace KK := Lib.hid (KK.out.trans ((hb).mono KK.out.size))
  clear hb HSS KB
  refine hK.out _ _ (fun h => absurd h (by simp)) ?_
  refine wpAnyW_one (i := 18) (by kernel_rfl) rfl (fun K hK => ?_)
  go_simp
  refine hK.out _ _ (fun h => absurd h (by simp)) ?_
  refine wpAnyW_done (by kernel_rfl) ?_ _
  go_upto_region 5 with fail
  have HSS := Lib.hid (show ∀ z, Below v37.heap.size v37 z → (z.cell? ⟨g5, 0, none⟩ = some (.int .i64 5) ∧ z.cell? ⟨g5, 1, none⟩ = some (.string ⟨#[61]⟩) ∧ z.cell? ⟨g5, 2, none⟩ = some (.string ⟨#[]⟩) ∧ z.cell? ⟨g5, 3, none⟩ = some (.int .u64 0) ∧ z.cell? ⟨g5, 4, none⟩ = some (.int .i64 0) ∧ z.cell? ⟨g5, 5, none⟩ = some (.slice A5 2 c5)) from fun z hb => (HX5.out.below hb).cells rfl rfl)
  refine wp_region_wait (fun z => (z.cell? ⟨g5, 0, none⟩ = some (.int .i64 5) ∧ z.cell? ⟨g5, 1, none⟩ = some (.string ⟨#[61]⟩) ∧ z.cell? ⟨g5, 2, none⟩ = some (.string ⟨#[]⟩) ∧ z.cell? ⟨g5, 3, none⟩ = some (.int .u64 0) ∧ z.cell? ⟨g5, 4, none⟩ = some (.int .i64 0) ∧ z.cell? ⟨g5, 5, none⟩ = some (.slice A5 2 c5))) 8 (by kernel_rfl) ?_
  change wpAnyW _ _ _ _ _ _ _ _ _ v37.drew
  have hbd := below_drew' v37
  have KB := Lib.hid (show Below v37.heap.size v37 v37.drew from hbd)
  replace HA1 := Lib.hid (TAt.any HA1.out (fun b hb => hb) hbd)
  replace HA5 := Lib.hid (TAt.any HA5.out (fun b hb => hb) hbd)
  replace HX1 := Lib.hid (HX1.out.below (hbd))
  replace HX5 := Lib.hid (HX5.out.below (hbd))
  replace KK := Lib.hid (KK.out.trans ((hbd).mono KK.out.size))
  clear hbd
  generalize v37.drew = v38 at *
  refine wpAnyW_take 8 (i := 0) (v := .agg #[.int .i64 5, .string ⟨#[61]⟩, .string ⟨#[]⟩, .int .u64 0, .int .i64 0, .slice A5 2 c5]) rfl (by kernel_rfl) (by kernel_rfl) (by kernel_rfl) (by kernel_rfl) (fun _ _ _ h => h) (Or.inl ⟨by rfl, ?_⟩) (HSS.out _ KB.out) ?_
  · intro w5 hSw
    obtain ⟨p0, p1, p2, p3, p4, p5⟩ := hSw
    go_simp
  refine wpAnyW_one (i := 1) (by kernel_rfl) rfl (fun K hK => ?_)
  go_simp
  (with_reducible refine (lv_any _ _).mono ?_)
  rintro e v39 ⟨rfl, hb⟩
  replace HA1 := Lib.hid (TAt.any HA1.out (fun b hb => hb) hb)
  replace HA5 := Lib.hid (TAt.any HA5.out (fun b hb => hb) hb)
  replace HX1 := Lib.hid (HX1.out.below (hb))
  replace HX5 := Lib.hid (HX5.out.below (hb))
  replace KK := Lib.hid (KK.out.trans ((hb).mono KK.out.size))
  replace KB := Lib.hid (KB.out.trans ((hb).mono KB.out.size))
  clear hb
  refine hK.out _ _ (fun _ => HSS.out _ KB.out) ?_
  refine wpAnyW_one (i := 2) (by kernel_rfl) rfl (fun K hK => ?_)
  go_simp
  (with_reducible refine (latom_any _ _).mono ?_)
  rintro e v40 ⟨rfl, hb⟩
  replace HA1 := Lib.hid (TAt.any HA1.out (fun b hb => hb) hb)
  replace HA5 := Lib.hid (TAt.any HA5.out (fun b hb => hb) hb)
  replace HX1 := Lib.hid (HX1.out.below (hb))
  replace HX5 := Lib.hid (HX5.out.below (hb))
  replace KK := Lib.hid (KK.out.trans ((hb).mono KK.out.size))
  replace KB := Lib.hid (KB.out.trans ((hb).mono KB.out.size))
  clear hb
  refine hK.out _ _ (fun _ => HSS.out _ KB.out) ?_
  refine wpAnyW_one (i := 3) (by kernel_rfl) rfl (fun K hK => ?_)
  go_simp
  (with_reducible refine (lv_any _ _).mono ?_)
  rintro e v41 ⟨rfl, hb⟩
  replace HA1 := Lib.hid (TAt.any HA1.out (fun b hb => hb) hb)
  replace HA5 := Lib.hid (TAt.any HA5.out (fun b hb => hb) hb)
  replace HX1 := Lib.hid (HX1.out.below (hb))
  replace HX5 := Lib.hid (HX5.out.below (hb))
  replace KK := Lib.hid (KK.out.trans ((hb).mono KK.out.size))
  replace KB := Lib.hid (KB.out.trans ((hb).mono KB.out.size))
  clear hb
  refine hK.out _ _ (fun _ => HSS.out _ KB.out) ?_
  refine wpAnyW_one (i := 4) (by kernel_rfl) rfl (fun K hK => ?_)
  go_simp
  have hbA : Below v41.heap.size v41 (v41.alloc (.cells #[.int .i64 2, .string ⟨#[120]⟩, .string ⟨#[]⟩, .int .u64 0, .int .i64 0, .slice none 0 0, .int .i64 1, .string ⟨#[]⟩, .string ⟨#[]⟩, .int .u64 0, .int .i64 5, .slice none 0 0] 25)) := (Below.refl _ _).alloc (Nat.le_refl _) _
  have hbu := built (w := v41) (P := fun b => b < v41.heap.size) (s := [46]) (n := 2) (cs := #[.int .i64 2, .string ⟨#[120]⟩, .string ⟨#[]⟩, .int .u64 0, .int .i64 0, .slice none 0 0, .int .i64 1, .string ⟨#[]⟩, .string ⟨#[]⟩, .int .u64 0, .int .i64 5, .slice none 0 0]) (ps := [((atomT [120]), Value.slice none 0 0), ((varT 5), Value.slice none 0 0)]) rfl rfl (mem2 (atom_at _ _ (by decide)) (var_at _ _ ⟨by omega, by omega⟩)) (fun b hb => hb) (by unfold maxArgs; omega) (by decide)
  have HBA := Lib.hid (And.intro hbA (And.intro hbu (show (v41.alloc (.cells #[.int .i64 2, .string ⟨#[120]⟩, .string ⟨#[]⟩, .int .u64 0, .int .i64 0, .slice none 0 0, .int .i64 1, .string ⟨#[]⟩, .string ⟨#[]⟩, .int .u64 0, .int .i64 5, .slice none 0 0] 25)).heap.size = v41.heap.size + 1 by simp)))
  clear hbA hbu
  replace HA1 := Lib.hid (TAt.any HA1.out (fun b hb => hb) HBA.out.1)
  replace HA5 := Lib.hid (TAt.any HA5.out (fun b hb => hb) HBA.out.1)
  replace HX1 := Lib.hid (HX1.out.below (HBA.out.1))
  replace HX5 := Lib.hid (HX5.out.below (HBA.out.1))
  replace KK := Lib.hid (KK.out.trans ((HBA.out.1).mono KK.out.size))
  replace KB := Lib.hid (KB.out.trans ((HBA.out.1).mono KB.out.size))
  refine hK.out _ _ (fun _ => HSS.out _ KB.out) ?_
  generalize (v41.alloc (.cells #[.int .i64 2, .string ⟨#[120]⟩, .string ⟨#[]⟩, .int .u64 0, .int .i64 0, .slice none 0 0, .int .i64 1, .string ⟨#[]⟩, .string ⟨#[]⟩, .int .u64 0, .int .i64 5, .slice none 0 0] 25)) = v42 at *
  generalize v41.heap.size = q10 at *
  refine wpAnyW_one (i := 5) (by kernel_rfl) rfl (fun K hK => ?_)
  go_simp
  (with_reducible refine (lf_any _ _ _ _ _).mono ?_)
  rintro e v43 ⟨rfl, hb⟩
  have HT10 := Lib.hid (show TAt v43 v43.heap.size (cmpT [46] [(atomT [120]), (varT 5)]) (.slice (some ⟨q10, 0, none⟩) 2 2) from TAt.any HBA.out.2.1 (fun b hb => by have := HBA.out.2.2; rcases hb with hb | hb <;> omega) hb)
  replace HA1 := Lib.hid (TAt.any HA1.out (fun b hb => hb) hb)
  replace HA5 := Lib.hid (TAt.any HA5.out (fun b hb => hb) hb)
  replace HX1 := Lib.hid (HX1.out.below (hb))
  replace HX5 := Lib.hid (HX5.out.below (hb))
  replace KK := Lib.hid (KK.out.trans ((hb).mono KK.out.size))
  replace KB := Lib.hid (KB.out.trans ((hb).mono KB.out.size))
  clear hb HBA
  refine hK.out _ _ (fun _ => HSS.out _ KB.out) ?_
  refine wpAnyW_one (i := 6) (by kernel_rfl) rfl (fun K hK => ?_)
  go_simp
  have hbA : Below v43.heap.size v43 (v43.alloc (.cells #[.int .i64 1, .string ⟨#[]⟩, .string ⟨#[]⟩, .int .u64 0, .int .i64 4, .slice none 0 0, .int .i64 5, .string ⟨#[46]⟩, .string ⟨#[]⟩, .int .u64 0, .int .i64 0, .slice (some ⟨q10, 0, none⟩) 2 2] 25)) := (Below.refl _ _).alloc (Nat.le_refl _) _
  have hbu := built (w := v43) (P := fun b => b < v43.heap.size) (s := [61]) (n := 2) (cs := #[.int .i64 1, .string ⟨#[]⟩, .string ⟨#[]⟩, .int .u64 0, .int .i64 4, .slice none 0 0, .int .i64 5, .string ⟨#[46]⟩, .string ⟨#[]⟩, .int .u64 0, .int .i64 0, .slice (some ⟨q10, 0, none⟩) 2 2]) (ps := [((varT 4), Value.slice none 0 0), ((cmpT [46] [(atomT [120]), (varT 5)]), Value.slice (some ⟨q10, 0, none⟩) 2 2)]) rfl rfl (mem2 (var_at _ _ ⟨by omega, by omega⟩) (HT10.out)) (fun b hb => hb) (by unfold maxArgs; omega) (by decide)
  have HBA := Lib.hid (And.intro hbA (And.intro hbu (show (v43.alloc (.cells #[.int .i64 1, .string ⟨#[]⟩, .string ⟨#[]⟩, .int .u64 0, .int .i64 4, .slice none 0 0, .int .i64 5, .string ⟨#[46]⟩, .string ⟨#[]⟩, .int .u64 0, .int .i64 0, .slice (some ⟨q10, 0, none⟩) 2 2] 25)).heap.size = v43.heap.size + 1 by simp)))
  clear hbA hbu
  clear HT10
  replace HA1 := Lib.hid (TAt.any HA1.out (fun b hb => hb) HBA.out.1)
  replace HA5 := Lib.hid (TAt.any HA5.out (fun b hb => hb) HBA.out.1)
  replace HX1 := Lib.hid (HX1.out.below (HBA.out.1))
  replace HX5 := Lib.hid (HX5.out.below (HBA.out.1))
  replace KK := Lib.hid (KK.out.trans ((HBA.out.1).mono KK.out.size))
  replace KB := Lib.hid (KB.out.trans ((HBA.out.1).mono KB.out.size))
  refine hK.out _ _ (fun _ => HSS.out _ KB.out) ?_
  generalize (v43.alloc (.cells #[.int .i64 1, .string ⟨#[]⟩, .string ⟨#[]⟩, .int .u64 0, .int .i64 4, .slice none 0 0, .int .i64 5, .string ⟨#[46]⟩, .string ⟨#[]⟩, .int .u64 0, .int .i64 0, .slice (some ⟨q10, 0, none⟩) 2 2] 25)) = v44 at *
  generalize v43.heap.size = q11 at *
  refine wpAnyW_one (i := 7) (by kernel_rfl) rfl (fun K hK => ?_)
  go_simp
  (with_reducible refine (lf_any _ _ _ _ _).mono ?_)
  rintro e v45 ⟨rfl, hb⟩
  have HT11 := Lib.hid (show TAt v45 v45.heap.size (cmpT [61] [(varT 4), (cmpT [46] [(atomT [120]), (varT 5)])]) (.slice (some ⟨q11, 0, none⟩) 2 2) from TAt.any HBA.out.2.1 (fun b hb => by have := HBA.out.2.2; rcases hb with hb | hb <;> omega) hb)
  replace HA1 := Lib.hid (TAt.any HA1.out (fun b hb => hb) hb)
  replace HA5 := Lib.hid (TAt.any HA5.out (fun b hb => hb) hb)
  replace HX1 := Lib.hid (HX1.out.below (hb))
  replace HX5 := Lib.hid (HX5.out.below (hb))
  replace KK := Lib.hid (KK.out.trans ((hb).mono KK.out.size))
  replace KB := Lib.hid (KB.out.trans ((hb).mono KB.out.size))
  clear hb HBA
  refine hK.out _ _ (fun _ => HSS.out _ KB.out) ?_
  refine wpAnyW_one (i := 8) (by kernel_rfl) rfl (fun K hK => ?_)
  go_simp
  have hR := Same_any (cmpT [61] [(varT 4), (cmpT [46] [(atomT [120]), (varT 5)])]) _ _ _ HA5.out HT11.out
  rw [show valT (cmpT [61] [(varT 4), (cmpT [46] [(atomT [120]), (varT 5)])]) (.slice A5 2 c5) = .agg #[.int .i64 5, .string ⟨#[61]⟩, .string ⟨#[]⟩, .int .u64 0, .int .i64 0, .slice A5 2 c5] from rfl, show valT (cmpT [61] [(varT 4), (cmpT [46] [(atomT [120]), (varT 5)])]) (.slice (some ⟨q11, 0, none⟩) 2 2) = .agg #[.int .i64 5, .string ⟨#[61]⟩, .string ⟨#[]⟩, .int .u64 0, .int .i64 0, .slice (some ⟨q11, 0, none⟩) 2 2] from rfl] at hR
  (with_reducible refine hR.mono ?_)
  rintro e v46 ⟨rfl, hb⟩
  clear hR HT11
  replace HA1 := Lib.hid (TAt.any HA1.out (fun b hb => hb) hb)
  replace HA5 := Lib.hid (TAt.any HA5.out (fun b hb => hb) hb)
  replace HX1 := Lib.hid (HX1.out.below (hb))
  replace HX5 := Lib.hid (HX5.out.below (hb))
  replace KK := Lib.hid (KK.out.trans ((hb).mono KK.out.size))
  clear hb HSS KB
  refine hK.out _ _ (fun h => absurd h (by simp)) ?_
  refine wpAnyW_one (i := 9) (by kernel_rfl) rfl (fun K hK => ?_)
  go_simp
  refine hK.out _ _ (fun h => absurd h (by simp)) ?_
  refine wpAnyW_done (by kernel_rfl) ?_ _
  go_wp2
  go_ret
  exact ⟨rfl, KK.out⟩
end Go.Proofs.YtgfeainpeplphaaDoor
