import Derived.Test.YtpikjceodmepiaaGreatDoorFfb
import Derived.Test.YtpikjceodmepiaaGreatDoorZbb
import Derived.Test.YtpikjceodmepiaaGreatDoorZub
set_option linter.unusedVariables false
set_option linter.unusedSimpArgs false
namespace Go.Proofs.YtpikjceodmepiaaGreatDoor
open Go.RowKit Hb Hf Ht
set_option linter.unusedVariables false
set_option linter.unusedSimpArgs false
attribute [local go_sem ↓] Go.wp_at_zero Go.wp_at_succ
/-! ### back again -/
abbrev Lo (w : World) : Nat → Prop := fun x => x < w.heap.size
theorem LimP.up {w w' : World} {A : Option Addr} {n c : Nat} {l : List Nat} (h : LimP w (Lo w) A n c l) (hb : Below w.heap.size w w') : LimP w' (Lo w') A n c l := h.keep fun x hx => ⟨Nat.lt_of_lt_of_le hx hb.size, hb.block x hx⟩
theorem SIn.up {w w' : World} {A : Option Addr} {n c K M : Nat} {ps : List Rg} (h : SIn w (Lo w) A n c ps K M) (hb : Below w.heap.size w w') : SIn w' (Lo w') A n c ps K M := h.keep fun x hx => ⟨Nat.lt_of_lt_of_le hx hb.size, hb.block x hx⟩
theorem SIn.lo {w : World} {P : Nat → Prop} {A : Option Addr} {n c K M : Nat} {ps : List Rg} (h : SIn w P A n c ps K M) (hP : ∀ b, P b → b < w.heap.size) : SIn w (Lo w) A n c ps K M := h.keep fun x hx => ⟨hP x hx, rfl⟩
theorem LimP.lo {w : World} {P : Nat → Prop} {A : Option Addr} {n c : Nat} {l : List Nat} (h : LimP w P A n c l) (hP : ∀ b, P b → b < w.heap.size) : LimP w (Lo w) A n c l := h.keep fun x hx => ⟨hP x hx, rfl⟩
theorem LimP.grown {w w' : World} {A : Option Addr} {n c N : Nat} {l : List Nat} {B : Nat} (h : LimP w (fun x => x < B) A n c l) (hg : w.grownBy w' (some N)) (hB : B ≤ N) (hB2 : B ≤ w.heap.size) : LimP w' (fun x => x < B) A n c l := h.keep fun x hx => ⟨hx, hg.block x (by omega) (fun e => by injection e with e; omega)⟩
theorem IBox.set1 {w : World} {g : Nat} {x : Bool} {y : Value} (h : IBox w g x y) (y' : Value) : IBox (w.setCell ⟨g, 1, none⟩ y') g x y' ∧ w.grownBy (w.setCell ⟨g, 1, none⟩ y') (some g) := by
  refine ⟨?_, gb_setCell (gb_refl _ _) _ _⟩
  unfold IBox at h ⊢
  simp [World.setCell, Array.getElem?_modify, h]
set_option maxRecDepth 100000 in
set_option maxHeartbeats 16000000 in
theorem back_walk {w : World} {A A' : Option Addr} {n c n' c' : Nat} {ps : List Rg} {g : Bool} {l : List Nat} (h : SetP w (fun b => b < w.heap.size) A n c ps) (hz : ZnR ps) (hl : SlU w w.heap.size A' n' c' l) (hU : UOk w w) :
    Calls Tryz.prog 4 #[.slice A n c, .agg #[.bool g, .slice A' n' c']] w fun e w' => e = .returned (.bool true) ∧ Below w.heap.size w w' := by
  obtain ⟨B, hB⟩ : ∃ B, w.heap.size = B := ⟨_, rfl⟩
  obtain ⟨m, hm⟩ : ∃ m, min 60 n' = m := ⟨_, rfl⟩
  have hcap := hl.cap
  have hmx := hl.max
  unfold maxLen at hmx
  have hmn : m ≤ n' := by omega
  have HF := Lib.hid (fun u (hb : Below B w u) => few_any (w := u) (h.keep (Q := fun b => b < B) (fun b hk => ⟨by omega, hb.block b (by omega)⟩)) (fun b hk => by have := hb.size; omega) hz)
  have HL := Lib.hid (fun u (hb : Below B w u) => show LimP u (fun x => x < B) A' m c' (l.take m) from (LimP.of_sl (hl.take (k := m) hmn)).keep (fun x hx => ⟨by omega, hb.block x (by omega)⟩))
  have HUo := Lib.hid (fun u (hb : Below B w u) => show UOk w u from hU.below (by rw [hB]; exact hb))
  have hB0 : Below B w w := hB ▸ Below.refl _ _
  have HX := Lib.hid (show IBox (w.alloc (.cells #[.bool g, .slice A' n' c'] 56)) B g (.slice A' n' c') from by rw [← hB]; exact IBox.of_alloc)
  have HB1 := Lib.hid (show Below B w (w.alloc (.cells #[.bool g, .slice A' n' c'] 56)) from hB0.alloc (by omega) _)
  have hmi : min (60 : Int) (n' : Int) = (m : Int) := by omega
  have hm0 : (0 : Int) ≤ (m : Int) := by omega
  have hmnI : (m : Int) ≤ (n' : Int) := by omega
  have hmc : (m : Int) ≤ (c' : Int) := by omega
  have HM := Lib.hid (show m ≤ 60 from by omega)
  obtain ⟨z, hzv⟩ : ∃ z, ival g (l.take m) = z := ⟨_, rfl⟩
  have HZ := Lib.hid hzv
  have HBe := Lib.hid hB
  rw [hB]
  clear h hz hl hU hB0 hcap hmx hmn hm hzv
  go_enter Tryz.func4, Tryz.ntmps4
  go_upto_region 1 with fail
  try rw [hB]
  clear hB
  generalize (w.alloc (.cells #[.bool g, .slice A' n' c'] 56)) = w1 at *
  have hS1 : B < w1.heap.size := HX.out.lt
  go_wp2_with fail
  (with_reducible refine (awake_ok).mono ?_)
  rintro e u2 ⟨he, hb⟩
  subst he
  have HX2 := Lib.hid (HX.out.below hb)
  have HB2 := Lib.hid (HB1.out.trans (hb.mono (by omega)))
  have hS2 : B < u2.heap.size := Nat.lt_of_lt_of_le hS1 hb.size
  clear hb HX HB1 hS1
  go_wp2_with fail
  (with_reducible refine (HF.out _ HB2.out).mono ?_)
  rintro e u3 ⟨Aa, na, ca, qa, he, hs, hb⟩
  subst he
  have HX3 := Lib.hid (HX2.out.below hb)
  have HB3 := Lib.hid (HB2.out.trans (hb.mono (by omega)))
  have HA3 := Lib.hid hs
  have hU23 : u2.heap.size ≤ u3.heap.size := hb.size
  clear hs hb HX2 HF
  obtain ⟨i0, i1⟩ := HX3.out.cells
  obtain ⟨f0, f1⟩ := HX3.out.frozens
  have HSe := Lib.hid (HX3.out.set1 (.slice A' m c'))
  go_upto_region 4 with fail
  clear i0 i1 f0 f1
  generalize (u3.setCell ⟨B, 1, none⟩ (.slice A' m c')) = u4 at *
  have HB4 := Lib.hid (HB3.out.grown HSe.out.2 (by omega) (fun j e => by injection e with e; omega))
  have hS4 : B < u4.heap.size := by have := HSe.out.2.size; omega
  have HL4 := Lib.hid ((HL.out u4 HB4.out).lo (fun b hb => by omega))
  have HN4 := Lib.hid HSe.out.1
  have HA4 := Lib.hid (show SIn u4 (Lo u4) Aa na ca qa 40 60 from HA3.out.keep (fun x hx => ⟨by have := hx.2; have := HSe.out.2.size; show x < _; omega, HSe.out.2.block x hx.2 (fun e => by injection e with e; have := hx.1; omega)⟩))
  have HU4 := Lib.hid (HUo.out u4 HB4.out)
  clear HX3 HB3 HB2 HA3 HSe HL HUo hU23 hS2
  obtain ⟨i0, i1⟩ := HN4.out.cells
  go_wp2_with fail
  (with_reducible refine (Shift_ok (K := 40) (M := 60) HA4.out HL4.out (fun x hx => hx) (by omega) (by omega) HM.out HZ.out).mono ?_)
  rintro e u5 ⟨As, ns, cs, qs, he, hs, hms, hb⟩
  subst he
  have HB5 := Lib.hid (HB4.out.trans (hb.mono (by omega)))
  have hS5 : B < u5.heap.size := Nat.lt_of_lt_of_le hS4 hb.size
  have HN5 := Lib.hid (HN4.out.below hb)
  have HL5 := Lib.hid (HL4.out.up hb)
  have HA5 := Lib.hid (HA4.out.up hb)
  have HU5 := Lib.hid (HU4.out.below hb)
  have HS5 := Lib.hid (hs.sin.lo (fun b hb => hb.2))
  have HMs := Lib.hid hms
  clear hs hms hb i0 i1
  clear HB4 hS4 HN4 HL4 HA4 HU4
  obtain ⟨i0, i1⟩ := HN5.out.cells
  go_wp2_with fail
  (with_reducible refine (neg_any g (HL5.out.sl (B := u5.heap.size) (fun x hx => hx)) (by have := HM.out; omega) (Nat.le_refl _)).mono ?_)
  rintro e u6 ⟨v, he, hr, hb⟩
  obtain ⟨A2, c2, hv2, hat⟩ := hr.nb
  subst hv2
  subst he
  have HB6 := Lib.hid (HB5.out.trans (hb.mono (by omega)))
  have hS6 : B < u6.heap.size := Nat.lt_of_lt_of_le hS5 hb.size
  have HN6 := Lib.hid (HN5.out.below hb)
  have HL6 := Lib.hid (HL5.out.up hb)
  have HA6 := Lib.hid (HA5.out.up hb)
  have HU6 := Lib.hid (HU5.out.below hb)
  have HS6 := Lib.hid (HS5.out.up hb)
  have HNl := Lib.hid (show ival (!g) (l.take m) = -z from by
    rw [← HZ.out]
    unfold ival
    cases g <;> simp)
  rw [HNl.out] at hat ⊢
  obtain ⟨zn, hzn⟩ : ∃ q, -z = q := ⟨_, rfl⟩
  rw [hzn] at hat ⊢
  have HZn := Lib.hid hzn
  have HLn := Lib.hid (show (digs W zn.natAbs).length ≤ 60 from by
    have h1 := ival_len HL6.out.dig HL6.out.len HZ.out
    rw [← hzn, Int.natAbs_neg]
    have := HM.out
    omega)
  have HP6 := Lib.hid (show LimP u6 (Lo u6) A2 (digs W zn.natAbs).length c2 (digs W zn.natAbs) from hat.lim.lo (fun b hb => hb.2))
  have HVn := Lib.hid (show ival (decide (zn < 0)) (digs W zn.natAbs) = zn from ival_digs zn)
  clear hat hr hb i0 i1 hzn
  generalize decide (zn < 0) = gn at *
  generalize hln : (digs W zn.natAbs).length = ln at *
  generalize digs W zn.natAbs = lln at *
  clear hln
  clear HB5 hS5 HN5 HL5 HA5 HU5 HS5
  go_wp2_with fail
  (with_reducible refine (Shift_ok (K := 40) (M := 61) HS6.out HP6.out (fun x hx => hx) (by omega) (by omega) (by have := HLn.out; omega) HVn.out).mono ?_)
  rintro e u7 ⟨Ab, nb', cb, qb, he, hs, hms, hb⟩
  subst he
  have HB7 := Lib.hid (HB6.out.trans (hb.mono (by omega)))
  have hS7 : B < u7.heap.size := Nat.lt_of_lt_of_le hS6 hb.size
  have HN7 := Lib.hid (HN6.out.below hb)
  have HL7 := Lib.hid (HL6.out.up hb)
  have HA7 := Lib.hid (HA6.out.up hb)
  have HU7 := Lib.hid (HU6.out.below hb)
  have HS7 := Lib.hid (HS6.out.up hb)
  have HBb7 := Lib.hid (hs.sin.lo (fun b hb => hb.2))
  have HMb := Lib.hid (show ∀ k, Hf.mem k (qa.map edsR) ↔ Hf.mem k (qb.map edsR) from fun k => by
    rw [hms k, HMs.out, ← HZn.out, show k - -z - z = k by omega])
  clear hs hms hb HP6 HVn HLn HNl
  clear HB6 hS6 HN6 HL6 HA6 HU6 HS6
  clear HS7 HMs
  go_wp2_with fail
  (with_reducible refine (Same_true (K := 40) (M := 62) (HA7.out.more (by omega) (by omega)) HBb7.out (fun x hx => hx) (by omega) (by omega) HMb.out).mono ?_)
  rintro e u8 ⟨he, hb⟩
  subst he
  have HB8 := Lib.hid (HB7.out.trans (hb.mono (by omega)))
  have hS8 : B < u8.heap.size := Nat.lt_of_lt_of_le hS7 hb.size
  have HN8 := Lib.hid (HN7.out.below hb)
  have HL8 := Lib.hid (HL7.out.up hb)
  have HA8 := Lib.hid (HA7.out.up hb)
  have HU8 := Lib.hid (HU7.out.below hb)
  clear hb HBb7 HMb
  clear HB7 hS7 HN7 HL7 HA7 HU7
  go_wp2_with fail
  (with_reducible refine (Term_ok (K := 40) (M := 60) HA8.out (fun x hx => hx) (by omega) (by omega)).mono ?_)
  rintro e u9 ⟨N, sl, hnf, hmm, hln, hbn, he, hat, hb⟩
  obtain ⟨At, ct, hsl, _⟩ := TAtP.iff.1 hat
  obtain ⟨qt, hqt⟩ : ∃ q, (setT N).as.length = q := ⟨_, rfl⟩
  rw [hqt] at hsl
  subst hsl
  obtain ⟨kt, nt, mt, bt, vt, hlt⟩ := tm_letters (setT N)
  unfold valT at he
  rw [hlt] at he
  subst he
  have HT9 := Lib.hid (show TAt u9 u9.heap.size (setT N) (.slice At qt ct) from hat.wide (fun b hb => hb.2))
  have HNn := Lib.hid (And.intro hnf (And.intro hmm (And.intro hln hbn)))
  have HLt := Lib.hid hlt
  have HB9 := Lib.hid (HB8.out.trans (hb.mono (by omega)))
  have hS9 : B < u9.heap.size := Nat.lt_of_lt_of_le hS8 hb.size
  have HN9 := Lib.hid (HN8.out.below hb)
  have HL9 := Lib.hid (HL8.out.up hb)
  have HA9 := Lib.hid (HA8.out.up hb)
  have HU9 := Lib.hid (HU8.out.below hb)
  clear hb hat hnf hmm hln hbn hqt hlt
  clear HB8 hS8 HN8 HL8 HA8 HU8
  have hb := (Below.refl u9.heap.size u9).alloc (Nat.le_refl _) (.cells #[.int .i64 kt, .string nt, .string mt, .int .u64 bt, .int .i64 vt, .slice At qt ct] 26)
  have hX10 := TBox.newL u9 (sl := .slice At qt ct) HLt.out
  have hT10 := HT9.out.to hb hb.size
  go_upto_region 8 with fail
  generalize hgx : u9.heap.size = Gx at hX10
  try rw [hgx]
  generalize (u9.alloc (.cells #[.int .i64 kt, .string nt, .string mt, .int .u64 bt, .int .i64 vt, .slice At qt ct] 26)) = u10 at *
  have HB10 := Lib.hid (HB9.out.trans (hb.mono (by omega)))
  have hS10 : B < u10.heap.size := Nat.lt_of_lt_of_le hS9 hb.size
  have HN10 := Lib.hid (HN9.out.below hb)
  have HL10 := Lib.hid (HL9.out.up hb)
  have HA10 := Lib.hid (HA9.out.up hb)
  have HU10 := Lib.hid (HU9.out.below hb)
  obtain ⟨x0, x1, x2, x3, x4, x5⟩ := TBox.cellsL hX10 HLt.out
  have HTo := Lib.hid (rd_told HNn.out.1 HNn.out.2.2.2 (by omega))
  have HRd := Lib.hid (Read_ok (K := 41) hT10 HU10.out (check_set (by have := HNn.out.2.2.1; omega) (fun r hr => ⟨by have := (HNn.out.2.2.2 r hr).1; omega, by have := (HNn.out.2.2.2 r hr).2; omega⟩)) HTo.out.1 (by have := HTo.out.2.2.1; have := HNn.out.2.2.1; omega) (by omega))
  unfold valT at HRd
  rw [HLt.out] at HRd
  clear hb hX10 hT10 HT9 hgx
  clear HB9 hS9 HN9 HL9 HA9 HU9
  go_wp2_with fail
  (with_reducible refine HRd.out.mono ?_)
  rintro e u11 ⟨Ac, nc, cc, qc, he, hs, hms, hb⟩
  subst he
  have HB11 := Lib.hid (HB10.out.trans (hb.mono (by omega)))
  have hS11 : B < u11.heap.size := Nat.lt_of_lt_of_le hS10 hb.size
  have HN11 := Lib.hid (HN10.out.below hb)
  have HL11 := Lib.hid (HL10.out.up hb)
  have HA11 := Lib.hid (HA10.out.up hb)
  have HU11 := Lib.hid (HU10.out.below hb)
  have HC11 := Lib.hid (hs.sin.lo (fun b hb => hb.2))
  have HMc := Lib.hid (show ∀ k, Hf.mem k (qa.map edsR) ↔ Hf.mem k (qc.map edsR) from fun k => by
    rw [hms k, HTo.out.2.1 k, HNn.out.2.1 k])
  clear hs hms hb HRd HTo HNn x0 x1 x2 x3 x4 x5
  clear HB10 hS10 HN10 HL10 HA10 HU10
  go_wp2_with fail
  (with_reducible refine (Same_true (K := 41) (M := 128) (HA11.out.more (by omega) (by omega)) HC11.out (fun x hx => hx) (by omega) (by omega) HMc.out).mono ?_)
  rintro e u12 ⟨he, hb⟩
  subst he
  have HB12 := Lib.hid (HB11.out.trans (hb.mono (by omega)))
  have hS12 : B < u12.heap.size := Nat.lt_of_lt_of_le hS11 hb.size
  have HN12 := Lib.hid (HN11.out.below hb)
  have HL12 := Lib.hid (HL11.out.up hb)
  have HA12 := Lib.hid (HA11.out.up hb)
  have HU12 := Lib.hid (HU11.out.below hb)
  clear hb HC11 HMc
  clear HB11 hS11 HN11 HL11 HA11 HU11
  obtain ⟨i0, i1⟩ := HN12.out.cells
  have HSg := Lib.hid (sign_gr g (w := u12) (B := u12.heap.size) (HL12.out.sl (fun x hx => hx)) (Nat.le_refl _))
  rw [HZ.out] at HSg
  by_cases hz0 : z = 0
  · rw [show z.sign = 0 by rw [hz0]; rfl] at HSg
    go_wp2_with fail
    (with_reducible refine HSg.out.mono ?_)
    rintro e u13 ⟨he, hgr⟩
    subst he
    have HB13 := Lib.hid (HB12.out.trans (hgr.bel.mono (by omega)))
    clear hgr i0 i1
    go_wp2
    go_ret
    exact ⟨rfl, HB13.out⟩
  · obtain ⟨sg, hsg⟩ : ∃ q, z.sign = q := ⟨_, rfl⟩
    have hsg0 : (sg == 0) = false := beq_eq_false_iff_ne.2 (fun h => hz0 (Int.sign_eq_zero_iff_zero.1 (hsg.trans h)))
    rw [hsg] at HSg
    have HZ0 := Lib.hid hz0
    clear hsg hz0
    go_wp2_with fail
    (with_reducible refine HSg.out.mono ?_)
    rintro e u13 ⟨he, hgr⟩
    subst he
    have hb := hgr.bel
    have HB13 := Lib.hid (HB12.out.trans (hb.mono (by omega)))
    have hS13 : B < u13.heap.size := Nat.lt_of_lt_of_le hS12 hb.size
    have HN13 := Lib.hid (HN12.out.below hb)
    have HL13 := Lib.hid (HL12.out.up hb)
    have HA13 := Lib.hid (HA12.out.up hb)
    have HU13 := Lib.hid (HU12.out.below hb)
    clear hb hgr i0 i1 HSg
    clear HB12 hS12 HN12 HL12 HA12 HU12
    obtain ⟨i0, i1⟩ := HN13.out.cells
    go_wp2_with fail
    (with_reducible refine (Scale_ok (K := 40) (M := 60) HA13.out HL13.out (fun x hx => hx) (by omega) (by have := HM.out; omega) HZ.out HZ0.out).mono ?_)
    rintro e u14 ⟨Ap, np, cp, qp, N2, hnf, hmn, he, hs, hms, hb⟩
    subst he
    have HB14 := Lib.hid (HB13.out.trans (hb.mono (by omega)))
    have hS14 : B < u14.heap.size := Nat.lt_of_lt_of_le hS13 hb.size
    have HN14 := Lib.hid (HN13.out.below hb)
    have HL14 := Lib.hid (HL13.out.up hb)
    have HA14 := Lib.hid (HA13.out.up hb)
    have HU14 := Lib.hid (HU13.out.below hb)
    have HP14 := Lib.hid (hs.sin.lo (fun b hb => hb.2))
    have HMp := Lib.hid (And.intro hmn hms)
    clear hs hms hb hnf hmn i0 i1
    clear HB13 hS13 HN13 HL13 HA13 HU13
    obtain ⟨i0, i1⟩ := HN14.out.cells
    go_wp2_with fail
    (with_reducible refine (Parts_ok (K := 40) (M := 60 + m) HP14.out HL14.out (fun x hx => hx) (by omega) (by have := HM.out; omega) (by have := HM.out; omega) HZ.out HZ0.out).mono ?_)
    rintro e u15 ⟨Ad, nd, cd, qd, he, hs, hms, hb⟩
    subst he
    have HB15 := Lib.hid (HB14.out.trans (hb.mono (by omega)))
    have hS15 : B < u15.heap.size := Nat.lt_of_lt_of_le hS14 hb.size
    have HN15 := Lib.hid (HN14.out.below hb)
    have HL15 := Lib.hid (HL14.out.up hb)
    have HA15 := Lib.hid (HA14.out.up hb)
    have HU15 := Lib.hid (HU14.out.below hb)
    have HD15 := Lib.hid (hs.sin.lo (fun b hb => hb.2))
    have HMd := Lib.hid (show ∀ k, Hf.mem k (qa.map edsR) ↔ Hf.mem k (qd.map edsR) from fun k => by
      rw [hms k, HMp.out.2, mem_sc HZ0.out, HMp.out.1 k])
    clear hs hms hb i0 i1 HP14 HMp
    clear HB14 hS14 HN14 HL14 HA14 HU14
    go_wp2_with fail
    (with_reducible refine (Same_true (K := 40) (M := 60 + m + 1) (HA15.out.more (by omega) (by omega)) HD15.out (fun x hx => hx) (by omega) (by have := HM.out; omega) HMd.out).mono ?_)
    rintro e u16 ⟨he, hb⟩
    subst he
    have HB16 := Lib.hid (HB15.out.trans (hb.mono (by omega)))
    clear hb
    go_wp2
    go_ret
    exact ⟨rfl, HB16.out⟩
end Go.Proofs.YtpikjceodmepiaaGreatDoor

