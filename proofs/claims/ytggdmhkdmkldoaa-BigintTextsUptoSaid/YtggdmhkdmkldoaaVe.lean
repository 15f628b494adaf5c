import Derived.Test.YtggdmhkdmkldoaaVd
namespace Go.Proofs.Ytggdmhkdmkldoaa
open Go.RowKit Hb
set_option linter.unusedVariables false
set_option linter.unusedSimpArgs false

theorem Long_b {q : Int} {b : Bool} (h : tooLong q = b) (s : Bool) (A : Option Addr) (c : Nat) (w : World) :
    Calls Try.prog 24 #[.agg #[.bool s, .slice A (digs 2 q.natAbs).length c]] w (LongPost b w) := by
  have h2 := rLong_any s A (digs 2 q.natAbs).length c w
  rwa [rlng_digs, h] at h2
def TePost (w : World) (T : ByteArray) (co : Int) (e : Ending) (w' : World) : Prop := e = .returned (.tuple #[.string T, .int .i64 co]) ∧ Below w.heap.size w w'
theorem Text_t {w : World} {A : Option Addr} {n c : Nat} {l : List Nat} {na : Bool} {x r : Int} {T : ByteArray} {tc : Int} (hs : SlU w w.heap.size A n c l) (hn : n ≤ 1048576) (hx : ival na l = x) (h1 : strN (tL x r) = T) (h2 : tC x r = tc) :
    Calls Try.prog 29 #[.agg #[.bool na, .slice A n c], .int .i64 r] w (TePost w T tc) := by
  have h := Text_w hs hn hx rfl h2
  rw [← h1]; exact h
def SPost (w : World) (T : ByteArray) (e : Ending) (w' : World) : Prop := e = .returned (.string T) ∧ Below w.heap.size w w'
theorem rText_t {w : World} {A : Option Addr} {c : Nat} {x r : Int} {T : ByteArray} (hs : SlI w w.heap.size A (digs 2 x.natAbs).length c (digs 2 x.natAbs)) (hl : tooLong x = false) (hr : 2 ≤ r ∧ r ≤ 36) (h1 : strN (tL x r) = T) :
    Calls Try.prog 30 #[.agg #[.bool (decide (x < 0)), .slice A (digs 2 x.natAbs).length c], .int .i64 r] w (SPost w T) := by
  obtain ⟨R, rfl⟩ := Int.eq_ofNat_of_zero_le (show 0 ≤ r by omega)
  have h := rText_any hs (Nat.le_refl _) (by have h9 := of_decide_eq_false hl; have h8 : blen x.natAbs = (digs 2 x.natAbs).length := rfl; omega) R (by omega) (by omega)
  rw [tL, hl, if_neg (by simp), if_neg (by omega), Int.toNat_natCast] at h1
  rw [h1] at h
  exact h

set_option maxRecDepth 100000 in
set_option maxHeartbeats 16000000 in
theorem Texts_ok_long (s : ByteArray) (kr : Int) (hkr : -9223372036854775808 ≤ kr ∧ kr ≤ 9223372036854775807) (hsz : s.size ≤ 1048576) (na : Bool) {Aa : Option Addr} {la : List Nat} {n_a ca : Nat} {w : World} (hsa : SlU w w.heap.size Aa n_a ca la) (hAa : Aa = none → ca = 0) (hna : n_a ≤ 1048576)
    {x z co : Int} (hx : ival na la = x) (hz : pVal s.data.toList kr = z) (hco : pCode s.data.toList kr = co) (hm : co = 0) (hl : tooLong x = true) :
    Calls Try.prog 4 #[.string s, .agg #[.bool na, .slice Aa n_a ca], .int .i64 kr] w fun e w' => e = .returned (.bool true) ∧ Below w.heap.size w w' := by
  obtain ⟨T, hT⟩ : ∃ T, strN (tL x kr) = T := ⟨_, rfl⟩
  have HTC := Lib.hid (show tC x kr = 10 by rw [tC, hl, if_pos rfl])
  have hT0 : T = ⟨#[]⟩ := by rw [← hT, tL, hl, if_pos rfl]; rfl
  subst hT0
  have HT := Lib.hid hT
  have HX := Lib.hid hx
  have HL := Lib.hid hl
  subst hm
  have HZ := Lib.hid (And.intro hz hco)
  have HCo := Lib.hid (show (0 : Int) = codeOf 0 z by rw [codeOf, if_pos rfl, pCode_short hz hco]; rfl)
  have HNX := Lib.hid (bits_le hsa hna hx)
  have HA := Lib.hid (And.intro hAa hna)
  have HSZ := Lib.hid hsz
  have HSA := Lib.hid (fun w1 (hb : Below w.heap.size w w1) => hsa.below hb (Nat.le_refl _))
  have HLA := Lib.hid (And.intro hsa.len hsa.dig)
  have he0 := (Ev.var (Ev.nil w) 24 (.bool na) (.slice Aa n_a ca))
  try simp only [World.size_alloc] at he0
  have HE0 : Hid (Ev w (w.alloc (.cells #[.bool na, .slice Aa n_a ca] 24)) [.var 24 w.heap.size (.bool na) (.slice Aa n_a ca)]) := Lib.hid he0
  clear he0
  clear hsa hAa hna hx hz hco hsz hT hl
  go_enter Try.func4, Try.ntmps4
  go_upto_region 1 with fail
  generalize (w.alloc (.cells #[.bool na, .slice Aa n_a ca] 24)) = w1 at *
  go_wp2_with fail
  refine (awake_any _).mono ?_
  rintro ex w1' ⟨rfl, hb1⟩
  have HE1 : Hid (Ev w w1' [.var 24 w.heap.size (.bool na) (.slice Aa n_a ca)]) := Lib.hid (HE0.out.below hb1)
  clear hb1 
  go_upto_region 2 with fail
  go_wp2_with fail
  refine (Parse_w HSZ.out HZ.out.1 HZ.out.2 _).mono ?_
  rintro ex w2' ⟨neg2, A2, n2, c2, l2, rfl, ho2, hg2, hb2⟩
  have HG2 := Lib.hid hg2
  clear hg2
  have HE2 : Hid (Ev w (w2'.alloc (.cells #[.bool neg2, .slice A2 n2 c2] 24)) [.var 24 w2'.heap.size (.bool neg2) (.slice A2 n2 c2), .own 48 A2 n2 c2 (u32s l2), .var 24 w.heap.size (.bool na) (.slice Aa n_a ca)]) := Lib.hid (Ev.var (Ev.own HE1.out hb2 ho2) 24 (.bool neg2) (.slice A2 n2 c2))
  clear hb2 ho2 
  go_upto_region 3 with fail
  generalize (w2'.alloc (.cells #[.bool neg2, .slice A2 n2 c2] 24)) = w2 at *
  generalize w2'.heap.size = g2 at *
  go_wp2_with fail
  refine (rParse_w0 HSZ.out HZ.out.1 HZ.out.2 _).mono ?_
  rintro ex w3' ⟨A3, c3, rfl, ho3, hb3⟩
  have HE3 : Hid (Ev w (w3'.alloc (.cells #[.bool (decide (z < 0)), .slice A3 ((digs 2 z.natAbs).length) c3] 28)) [.var 28 w3'.heap.size (.bool (decide (z < 0))) (.slice A3 ((digs 2 z.natAbs).length) c3), .own 3 A3 ((digs 2 z.natAbs).length) c3 (i64s (digs 2 z.natAbs)), .var 24 g2 (.bool neg2) (.slice A2 n2 c2), .own 48 A2 n2 c2 (u32s l2), .var 24 w.heap.size (.bool na) (.slice Aa n_a ca)]) := Lib.hid (Ev.var (Ev.own HE2.out hb3 ho3) 28 (.bool (decide (z < 0))) (.slice A3 ((digs 2 z.natAbs).length) c3))
  clear hb3 ho3 
  go_upto_region 4 with fail
  generalize (w3'.alloc (.cells #[.bool (decide (z < 0)), .slice A3 ((digs 2 z.natAbs).length) c3] 28)) = w3 at *
  generalize w3'.heap.size = g3 at *
  obtain ⟨x4a, x4b, x4c, x4d⟩ := HE3.out.cells (.tail _ (.tail _ (.head _)))
  obtain ⟨x5a, x5b, x5c, x5d⟩ := HE3.out.cells (.head _)
  go_wp2_with fail
  refine (is_w (HE3.out.has (.tail _ (.tail _ (.tail _ (.head _))))) HE3.out.b.size HG2.out (bits_sl (HE3.out.has (.tail _ (.head _)))) (Nat.le_refl _) HCo.out).mono ?_
  rintro ex w6' ⟨rfl, hg6⟩
  have HE6 : Hid (Ev w w6' [.var 28 g3 (.bool (decide (z < 0))) (.slice A3 ((digs 2 z.natAbs).length) c3), .own 3 A3 ((digs 2 z.natAbs).length) c3 (i64s (digs 2 z.natAbs)), .var 24 g2 (.bool neg2) (.slice A2 n2 c2), .var 24 w.heap.size (.bool na) (.slice Aa n_a ca)]) := Lib.hid (Ev.spend [.var 28 g3 (.bool (decide (z < 0))) (.slice A3 ((digs 2 z.natAbs).length) c3), .own 3 A3 ((digs 2 z.natAbs).length) c3 (i64s (digs 2 z.natAbs)), .var 24 g2 (.bool neg2) (.slice A2 n2 c2)] (.own 48 A2 n2 c2 (u32s l2)) [.var 24 w.heap.size (.bool na) (.slice Aa n_a ca)] HE3.out hg6)
  clear hg6 x4a x4b x4c x4d x5a x5b x5c x5d
  go_upto_region 5 with fail
  obtain ⟨x7a, x7b, x7c, x7d⟩ := HE6.out.cells (.tail _ (.tail _ (.tail _ (.head _))))
  go_wp2_with fail
  refine (Of_w ((HSA.out _ HE6.out.b).mono HE6.out.b.size) HA.out.2 HX.out).mono ?_
  rintro ex w8' ⟨v, rfl, ⟨A8, c8, rfl, ho8⟩, hb8⟩
  have HE8 : Hid (Ev w (w8'.alloc (.cells #[.bool (decide (x < 0)), .slice A8 ((digs 2 x.natAbs).length) c8] 28)) [.var 28 w8'.heap.size (.bool (decide (x < 0))) (.slice A8 ((digs 2 x.natAbs).length) c8), .own 3 A8 ((digs 2 x.natAbs).length) c8 (i64s (digs 2 x.natAbs)), .var 28 g3 (.bool (decide (z < 0))) (.slice A3 ((digs 2 z.natAbs).length) c3), .own 3 A3 ((digs 2 z.natAbs).length) c3 (i64s (digs 2 z.natAbs)), .var 24 g2 (.bool neg2) (.slice A2 n2 c2), .var 24 w.heap.size (.bool na) (.slice Aa n_a ca)]) := Lib.hid (Ev.var (Ev.own HE6.out hb8 ho8) 28 (.bool (decide (x < 0))) (.slice A8 ((digs 2 x.natAbs).length) c8))
  clear hb8 ho8 x7a x7b x7c x7d
  go_upto_region 6 with fail
  generalize (w8'.alloc (.cells #[.bool (decide (x < 0)), .slice A8 ((digs 2 x.natAbs).length) c8] 28)) = w8 at *
  generalize w8'.heap.size = g8 at *
  obtain ⟨x9a, x9b, x9c, x9d⟩ := HE8.out.cells (.tail _ (.tail _ (.tail _ (.tail _ (.tail _ (.head _))))))
  go_wp2_with fail
  refine (lent_any na ((HSA.out _ HE8.out.b).mono HE8.out.b.size) HA.out.1 (Nat.le_trans HA.out.2 (by decide)) (Nat.le_refl _)).mono ?_
  rintro ex w10' ⟨gl10, c10, rfl, ho10, hb10⟩
  have HE10 : Hid (Ev w (w10'.alloc (.cells #[.bool na, .slice (some ⟨gl10, 0, none⟩) n_a c10] 24)) [.var 24 w10'.heap.size (.bool na) (.slice (some ⟨gl10, 0, none⟩) n_a c10), .own 48 (some ⟨gl10, 0, none⟩) (n_a + 3) c10 (u32s (la ++ [77, 77, 77])), .var 28 g8 (.bool (decide (x < 0))) (.slice A8 ((digs 2 x.natAbs).length) c8), .own 3 A8 ((digs 2 x.natAbs).length) c8 (i64s (digs 2 x.natAbs)), .var 28 g3 (.bool (decide (z < 0))) (.slice A3 ((digs 2 z.natAbs).length) c3), .own 3 A3 ((digs 2 z.natAbs).length) c3 (i64s (digs 2 z.natAbs)), .var 24 g2 (.bool neg2) (.slice A2 n2 c2), .var 24 w.heap.size (.bool na) (.slice Aa n_a ca)]) := Lib.hid (Ev.var (Ev.own HE8.out hb10 ho10) 24 (.bool na) (.slice (some ⟨gl10, 0, none⟩) n_a c10))
  clear hb10 ho10 x9a x9b x9c x9d
  go_upto_region 7 with fail
  generalize (w10'.alloc (.cells #[.bool na, .slice (some ⟨gl10, 0, none⟩) n_a c10] 24)) = w10 at *
  generalize w10'.heap.size = g10 at *
  obtain ⟨x11a, x11b, x11c, x11d⟩ := HE10.out.cells (.head _)
  go_wp2_with fail
  refine (Text_t (lent_sl (HE10.out.has (.tail _ (.head _))) HLA.out.1 HLA.out.2) HA.out.2 HX.out HT.out HTC.out).mono ?_
  rintro ex w12' ⟨rfl, hb12⟩
  have HE12 : Hid (Ev w w12' [.var 24 g10 (.bool na) (.slice (some ⟨gl10, 0, none⟩) n_a c10), .own 48 (some ⟨gl10, 0, none⟩) (n_a + 3) c10 (u32s (la ++ [77, 77, 77])), .var 28 g8 (.bool (decide (x < 0))) (.slice A8 ((digs 2 x.natAbs).length) c8), .own 3 A8 ((digs 2 x.natAbs).length) c8 (i64s (digs 2 x.natAbs)), .var 28 g3 (.bool (decide (z < 0))) (.slice A3 ((digs 2 z.natAbs).length) c3), .own 3 A3 ((digs 2 z.natAbs).length) c3 (i64s (digs 2 z.natAbs)), .var 24 g2 (.bool neg2) (.slice A2 n2 c2), .var 24 w.heap.size (.bool na) (.slice Aa n_a ca)]) := Lib.hid (HE10.out.below hb12)
  clear hb12 x11a x11b x11c x11d
  go_upto_region 8 with fail
  obtain ⟨x13a, x13b, x13c, x13d⟩ := HE12.out.cells (.head _)
  obtain ⟨x14a, x14b, x14c, x14d⟩ := HE12.out.cells (.tail _ (.tail _ (.tail _ (.tail _ (.tail _ (.tail _ (.tail _ (.head _))))))))
  go_wp2_with fail
  refine (held_any na (HSA.out _ HE12.out.b) ((HE12.out.2.1 _ (.tail _ (.head _))).2 _ rfl).1 ((HE12.out.2.1 _ (.tail _ (.head _))).2 _ rfl).2 (HE12.out.has (.tail _ (.head _)))).mono ?_
  rintro ex w15' ⟨rfl, hg15⟩
  have HE15 : Hid (Ev w w15' [.var 24 g10 (.bool na) (.slice (some ⟨gl10, 0, none⟩) n_a c10), .var 28 g8 (.bool (decide (x < 0))) (.slice A8 ((digs 2 x.natAbs).length) c8), .own 3 A8 ((digs 2 x.natAbs).length) c8 (i64s (digs 2 x.natAbs)), .var 28 g3 (.bool (decide (z < 0))) (.slice A3 ((digs 2 z.natAbs).length) c3), .own 3 A3 ((digs 2 z.natAbs).length) c3 (i64s (digs 2 z.natAbs)), .var 24 g2 (.bool neg2) (.slice A2 n2 c2), .var 24 w.heap.size (.bool na) (.slice Aa n_a ca)]) := Lib.hid (Ev.spend [.var 24 g10 (.bool na) (.slice (some ⟨gl10, 0, none⟩) n_a c10)] (.own 48 (some ⟨gl10, 0, none⟩) (n_a + 3) c10 (u32s (la ++ [77, 77, 77]))) [.var 28 g8 (.bool (decide (x < 0))) (.slice A8 ((digs 2 x.natAbs).length) c8), .own 3 A8 ((digs 2 x.natAbs).length) c8 (i64s (digs 2 x.natAbs)), .var 28 g3 (.bool (decide (z < 0))) (.slice A3 ((digs 2 z.natAbs).length) c3), .own 3 A3 ((digs 2 z.natAbs).length) c3 (i64s (digs 2 z.natAbs)), .var 24 g2 (.bool neg2) (.slice A2 n2 c2), .var 24 w.heap.size (.bool na) (.slice Aa n_a ca)] HE12.out hg15)
  clear hg15 x13a x13b x13c x13d x14a x14b x14c x14d
  go_upto_region 9 with fail
  obtain ⟨x16a, x16b, x16c, x16d⟩ := HE15.out.cells (.tail _ (.head _))
  go_wp2_with fail
  refine (Long_b HL.out _ _ _ _).mono ?_
  rintro ex w17' ⟨rfl, hb17⟩
  have HE17 : Hid (Ev w w17' [.var 24 g10 (.bool na) (.slice (some ⟨gl10, 0, none⟩) n_a c10), .var 28 g8 (.bool (decide (x < 0))) (.slice A8 ((digs 2 x.natAbs).length) c8), .own 3 A8 ((digs 2 x.natAbs).length) c8 (i64s (digs 2 x.natAbs)), .var 28 g3 (.bool (decide (z < 0))) (.slice A3 ((digs 2 z.natAbs).length) c3), .own 3 A3 ((digs 2 z.natAbs).length) c3 (i64s (digs 2 z.natAbs)), .var 24 g2 (.bool neg2) (.slice A2 n2 c2), .var 24 w.heap.size (.bool na) (.slice Aa n_a ca)]) := Lib.hid (HE15.out.below hb17)
  clear hb17 x16a x16b x16c x16d
  go_wp2
  go_ret
  exact ⟨by first | rfl | simp, HE17.out.b⟩
set_option maxRecDepth 100000 in
set_option maxHeartbeats 16000000 in
theorem Texts_ok_radix (s : ByteArray) (kr : Int) (hkr : -9223372036854775808 ≤ kr ∧ kr ≤ 9223372036854775807) (hsz : s.size ≤ 1048576) (na : Bool) {Aa : Option Addr} {la : List Nat} {n_a ca : Nat} {w : World} (hsa : SlU w w.heap.size Aa n_a ca la) (hAa : Aa = none → ca = 0) (hna : n_a ≤ 1048576)
    {x z co : Int} (hx : ival na la = x) (hz : pVal s.data.toList kr = z) (hco : pCode s.data.toList kr = co) (hm : co = 0) (hl : tooLong x = false) (hr : kr < 2 ∨ 36 < kr) :
    Calls Try.prog 4 #[.string s, .agg #[.bool na, .slice Aa n_a ca], .int .i64 kr] w fun e w' => e = .returned (.bool true) ∧ Below w.heap.size w w' := by
  obtain ⟨T, hT⟩ : ∃ T, strN (tL x kr) = T := ⟨_, rfl⟩
  have HTC := Lib.hid (show tC x kr = 13 by rw [tC, hl, if_neg (by simp), if_pos hr])
  have hT0 : T = ⟨#[]⟩ := by rw [← hT, tL, hl, if_neg (by simp), if_pos hr]; rfl
  subst hT0
  have HT := Lib.hid hT
  have HX := Lib.hid hx
  have HL := Lib.hid hl
  subst hm
  have HZ := Lib.hid (And.intro hz hco)
  have HCo := Lib.hid (show (0 : Int) = codeOf 0 z by rw [codeOf, if_pos rfl, pCode_short hz hco]; rfl)
  have HNX := Lib.hid (bits_le hsa hna hx)
  have HA := Lib.hid (And.intro hAa hna)
  have HSZ := Lib.hid hsz
  have HSA := Lib.hid (fun w1 (hb : Below w.heap.size w w1) => hsa.below hb (Nat.le_refl _))
  have HLA := Lib.hid (And.intro hsa.len hsa.dig)
  have he0 := (Ev.var (Ev.nil w) 24 (.bool na) (.slice Aa n_a ca))
  try simp only [World.size_alloc] at he0
  have HE0 : Hid (Ev w (w.alloc (.cells #[.bool na, .slice Aa n_a ca] 24)) [.var 24 w.heap.size (.bool na) (.slice Aa n_a ca)]) := Lib.hid he0
  clear he0
  clear hsa hAa hna hx hz hco hsz hT hl
  go_enter Try.func4, Try.ntmps4
  go_upto_region 1 with fail
  generalize (w.alloc (.cells #[.bool na, .slice Aa n_a ca] 24)) = w1 at *
  go_wp2_with fail
  refine (awake_any _).mono ?_
  rintro ex w1' ⟨rfl, hb1⟩
  have HE1 : Hid (Ev w w1' [.var 24 w.heap.size (.bool na) (.slice Aa n_a ca)]) := Lib.hid (HE0.out.below hb1)
  clear hb1 
  go_upto_region 2 with fail
  go_wp2_with fail
  refine (Parse_w HSZ.out HZ.out.1 HZ.out.2 _).mono ?_
  rintro ex w2' ⟨neg2, A2, n2, c2, l2, rfl, ho2, hg2, hb2⟩
  have HG2 := Lib.hid hg2
  clear hg2
  have HE2 : Hid (Ev w (w2'.alloc (.cells #[.bool neg2, .slice A2 n2 c2] 24)) [.var 24 w2'.heap.size (.bool neg2) (.slice A2 n2 c2), .own 48 A2 n2 c2 (u32s l2), .var 24 w.heap.size (.bool na) (.slice Aa n_a ca)]) := Lib.hid (Ev.var (Ev.own HE1.out hb2 ho2) 24 (.bool neg2) (.slice A2 n2 c2))
  clear hb2 ho2 
  go_upto_region 3 with fail
  generalize (w2'.alloc (.cells #[.bool neg2, .slice A2 n2 c2] 24)) = w2 at *
  generalize w2'.heap.size = g2 at *
  go_wp2_with fail
  refine (rParse_w0 HSZ.out HZ.out.1 HZ.out.2 _).mono ?_
  rintro ex w3' ⟨A3, c3, rfl, ho3, hb3⟩
  have HE3 : Hid (Ev w (w3'.alloc (.cells #[.bool (decide (z < 0)), .slice A3 ((digs 2 z.natAbs).length) c3] 28)) [.var 28 w3'.heap.size (.bool (decide (z < 0))) (.slice A3 ((digs 2 z.natAbs).length) c3), .own 3 A3 ((digs 2 z.natAbs).length) c3 (i64s (digs 2 z.natAbs)), .var 24 g2 (.bool neg2) (.slice A2 n2 c2), .own 48 A2 n2 c2 (u32s l2), .var 24 w.heap.size (.bool na) (.slice Aa n_a ca)]) := Lib.hid (Ev.var (Ev.own HE2.out hb3 ho3) 28 (.bool (decide (z < 0))) (.slice A3 ((digs 2 z.natAbs).length) c3))
  clear hb3 ho3 
  go_upto_region 4 with fail
  generalize (w3'.alloc (.cells #[.bool (decide (z < 0)), .slice A3 ((digs 2 z.natAbs).length) c3] 28)) = w3 at *
  generalize w3'.heap.size = g3 at *
  obtain ⟨x4a, x4b, x4c, x4d⟩ := HE3.out.cells (.tail _ (.tail _ (.head _)))
  obtain ⟨x5a, x5b, x5c, x5d⟩ := HE3.out.cells (.head _)
  go_wp2_with fail
  refine (is_w (HE3.out.has (.tail _ (.tail _ (.tail _ (.head _))))) HE3.out.b.size HG2.out (bits_sl (HE3.out.has (.tail _ (.head _)))) (Nat.le_refl _) HCo.out).mono ?_
  rintro ex w6' ⟨rfl, hg6⟩
  have HE6 : Hid (Ev w w6' [.var 28 g3 (.bool (decide (z < 0))) (.slice A3 ((digs 2 z.natAbs).length) c3), .own 3 A3 ((digs 2 z.natAbs).length) c3 (i64s (digs 2 z.natAbs)), .var 24 g2 (.bool neg2) (.slice A2 n2 c2), .var 24 w.heap.size (.bool na) (.slice Aa n_a ca)]) := Lib.hid (Ev.spend [.var 28 g3 (.bool (decide (z < 0))) (.slice A3 ((digs 2 z.natAbs).length) c3), .own 3 A3 ((digs 2 z.natAbs).length) c3 (i64s (digs 2 z.natAbs)), .var 24 g2 (.bool neg2) (.slice A2 n2 c2)] (.own 48 A2 n2 c2 (u32s l2)) [.var 24 w.heap.size (.bool na) (.slice Aa n_a ca)] HE3.out hg6)
  clear hg6 x4a x4b x4c x4d x5a x5b x5c x5d
  go_upto_region 5 with fail
  obtain ⟨x7a, x7b, x7c, x7d⟩ := HE6.out.cells (.tail _ (.tail _ (.tail _ (.head _))))
  go_wp2_with fail
  refine (Of_w ((HSA.out _ HE6.out.b).mono HE6.out.b.size) HA.out.2 HX.out).mono ?_
  rintro ex w8' ⟨v, rfl, ⟨A8, c8, rfl, ho8⟩, hb8⟩
  have HE8 : Hid (Ev w (w8'.alloc (.cells #[.bool (decide (x < 0)), .slice A8 ((digs 2 x.natAbs).length) c8] 28)) [.var 28 w8'.heap.size (.bool (decide (x < 0))) (.slice A8 ((digs 2 x.natAbs).length) c8), .own 3 A8 ((digs 2 x.natAbs).length) c8 (i64s (digs 2 x.natAbs)), .var 28 g3 (.bool (decide (z < 0))) (.slice A3 ((digs 2 z.natAbs).length) c3), .own 3 A3 ((digs 2 z.natAbs).length) c3 (i64s (digs 2 z.natAbs)), .var 24 g2 (.bool neg2) (.slice A2 n2 c2), .var 24 w.heap.size (.bool na) (.slice Aa n_a ca)]) := Lib.hid (Ev.var (Ev.own HE6.out hb8 ho8) 28 (.bool (decide (x < 0))) (.slice A8 ((digs 2 x.natAbs).length) c8))
  clear hb8 ho8 x7a x7b x7c x7d
  go_upto_region 6 with fail
  generalize (w8'.alloc (.cells #[.bool (decide (x < 0)), .slice A8 ((digs 2 x.natAbs).length) c8] 28)) = w8 at *
  generalize w8'.heap.size = g8 at *
  obtain ⟨x9a, x9b, x9c, x9d⟩ := HE8.out.cells (.tail _ (.tail _ (.tail _ (.tail _ (.tail _ (.head _))))))
  go_wp2_with fail
  refine (lent_any na ((HSA.out _ HE8.out.b).mono HE8.out.b.size) HA.out.1 (Nat.le_trans HA.out.2 (by decide)) (Nat.le_refl _)).mono ?_
  rintro ex w10' ⟨gl10, c10, rfl, ho10, hb10⟩
  have HE10 : Hid (Ev w (w10'.alloc (.cells #[.bool na, .slice (some ⟨gl10, 0, none⟩) n_a c10] 24)) [.var 24 w10'.heap.size (.bool na) (.slice (some ⟨gl10, 0, none⟩) n_a c10), .own 48 (some ⟨gl10, 0, none⟩) (n_a + 3) c10 (u32s (la ++ [77, 77, 77])), .var 28 g8 (.bool (decide (x < 0))) (.slice A8 ((digs 2 x.natAbs).length) c8), .own 3 A8 ((digs 2 x.natAbs).length) c8 (i64s (digs 2 x.natAbs)), .var 28 g3 (.bool (decide (z < 0))) (.slice A3 ((digs 2 z.natAbs).length) c3), .own 3 A3 ((digs 2 z.natAbs).length) c3 (i64s (digs 2 z.natAbs)), .var 24 g2 (.bool neg2) (.slice A2 n2 c2), .var 24 w.heap.size (.bool na) (.slice Aa n_a ca)]) := Lib.hid (Ev.var (Ev.own HE8.out hb10 ho10) 24 (.bool na) (.slice (some ⟨gl10, 0, none⟩) n_a c10))
  clear hb10 ho10 x9a x9b x9c x9d
  go_upto_region 7 with fail
  generalize (w10'.alloc (.cells #[.bool na, .slice (some ⟨gl10, 0, none⟩) n_a c10] 24)) = w10 at *
  generalize w10'.heap.size = g10 at *
  obtain ⟨x11a, x11b, x11c, x11d⟩ := HE10.out.cells (.head _)
  go_wp2_with fail
  refine (Text_t (lent_sl (HE10.out.has (.tail _ (.head _))) HLA.out.1 HLA.out.2) HA.out.2 HX.out HT.out HTC.out).mono ?_
  rintro ex w12' ⟨rfl, hb12⟩
  have HE12 : Hid (Ev w w12' [.var 24 g10 (.bool na) (.slice (some ⟨gl10, 0, none⟩) n_a c10), .own 48 (some ⟨gl10, 0, none⟩) (n_a + 3) c10 (u32s (la ++ [77, 77, 77])), .var 28 g8 (.bool (decide (x < 0))) (.slice A8 ((digs 2 x.natAbs).length) c8), .own 3 A8 ((digs 2 x.natAbs).length) c8 (i64s (digs 2 x.natAbs)), .var 28 g3 (.bool (decide (z < 0))) (.slice A3 ((digs 2 z.natAbs).length) c3), .own 3 A3 ((digs 2 z.natAbs).length) c3 (i64s (digs 2 z.natAbs)), .var 24 g2 (.bool neg2) (.slice A2 n2 c2), .var 24 w.heap.size (.bool na) (.slice Aa n_a ca)]) := Lib.hid (HE10.out.below hb12)
  clear hb12 x11a x11b x11c x11d
  go_upto_region 8 with fail
  obtain ⟨x13a, x13b, x13c, x13d⟩ := HE12.out.cells (.head _)
  obtain ⟨x14a, x14b, x14c, x14d⟩ := HE12.out.cells (.tail _ (.tail _ (.tail _ (.tail _ (.tail _ (.tail _ (.tail _ (.head _))))))))
  go_wp2_with fail
  refine (held_any na (HSA.out _ HE12.out.b) ((HE12.out.2.1 _ (.tail _ (.head _))).2 _ rfl).1 ((HE12.out.2.1 _ (.tail _ (.head _))).2 _ rfl).2 (HE12.out.has (.tail _ (.head _)))).mono ?_
  rintro ex w15' ⟨rfl, hg15⟩
  have HE15 : Hid (Ev w w15' [.var 24 g10 (.bool na) (.slice (some ⟨gl10, 0, none⟩) n_a c10), .var 28 g8 (.bool (decide (x < 0))) (.slice A8 ((digs 2 x.natAbs).length) c8), .own 3 A8 ((digs 2 x.natAbs).length) c8 (i64s (digs 2 x.natAbs)), .var 28 g3 (.bool (decide (z < 0))) (.slice A3 ((digs 2 z.natAbs).length) c3), .own 3 A3 ((digs 2 z.natAbs).length) c3 (i64s (digs 2 z.natAbs)), .var 24 g2 (.bool neg2) (.slice A2 n2 c2), .var 24 w.heap.size (.bool na) (.slice Aa n_a ca)]) := Lib.hid (Ev.spend [.var 24 g10 (.bool na) (.slice (some ⟨gl10, 0, none⟩) n_a c10)] (.own 48 (some ⟨gl10, 0, none⟩) (n_a + 3) c10 (u32s (la ++ [77, 77, 77]))) [.var 28 g8 (.bool (decide (x < 0))) (.slice A8 ((digs 2 x.natAbs).length) c8), .own 3 A8 ((digs 2 x.natAbs).length) c8 (i64s (digs 2 x.natAbs)), .var 28 g3 (.bool (decide (z < 0))) (.slice A3 ((digs 2 z.natAbs).length) c3), .own 3 A3 ((digs 2 z.natAbs).length) c3 (i64s (digs 2 z.natAbs)), .var 24 g2 (.bool neg2) (.slice A2 n2 c2), .var 24 w.heap.size (.bool na) (.slice Aa n_a ca)] HE12.out hg15)
  clear hg15 x13a x13b x13c x13d x14a x14b x14c x14d
  go_upto_region 9 with fail
  obtain ⟨x16a, x16b, x16c, x16d⟩ := HE15.out.cells (.tail _ (.head _))
  go_wp2_with fail
  refine (Long_b HL.out _ _ _ _).mono ?_
  rintro ex w17' ⟨rfl, hb17⟩
  have HE17 : Hid (Ev w w17' [.var 24 g10 (.bool na) (.slice (some ⟨gl10, 0, none⟩) n_a c10), .var 28 g8 (.bool (decide (x < 0))) (.slice A8 ((digs 2 x.natAbs).length) c8), .own 3 A8 ((digs 2 x.natAbs).length) c8 (i64s (digs 2 x.natAbs)), .var 28 g3 (.bool (decide (z < 0))) (.slice A3 ((digs 2 z.natAbs).length) c3), .own 3 A3 ((digs 2 z.natAbs).length) c3 (i64s (digs 2 z.natAbs)), .var 24 g2 (.bool neg2) (.slice A2 n2 c2), .var 24 w.heap.size (.bool na) (.slice Aa n_a ca)]) := Lib.hid (HE15.out.below hb17)
  clear hb17 x16a x16b x16c x16d
  rcases hr with hr | hr
  all_goals
    first | (have dq : decide (kr < 2) = true := decide_eq_true hr) | (have dq1 : decide (kr < 2) = false := decide_eq_false (by omega))
    try (have dq2 : decide (36 < kr) = true := decide_eq_true hr)
    go_wp2
    go_ret
    exact ⟨by first | rfl | simp, HE17.out.b⟩
set_option maxRecDepth 100000 in
set_option maxHeartbeats 16000000 in
theorem Texts_ok_ok (s : ByteArray) (kr : Int) (hkr : -9223372036854775808 ≤ kr ∧ kr ≤ 9223372036854775807) (hsz : s.size ≤ 1048576) (na : Bool) {Aa : Option Addr} {la : List Nat} {n_a ca : Nat} {w : World} (hsa : SlU w w.heap.size Aa n_a ca la) (hAa : Aa = none → ca = 0) (hna : n_a ≤ 1048576)
    {x z co : Int} (hx : ival na la = x) (hz : pVal s.data.toList kr = z) (hco : pCode s.data.toList kr = co) (hm : co = 0) (hl : tooLong x = false) (hr : 2 ≤ kr ∧ kr ≤ 36) :
    Calls Try.prog 4 #[.string s, .agg #[.bool na, .slice Aa n_a ca], .int .i64 kr] w fun e w' => e = .returned (.bool true) ∧ Below w.heap.size w w' := by
  obtain ⟨T, hT⟩ : ∃ T, strN (tL x kr) = T := ⟨_, rfl⟩
  have HTC := Lib.hid (show tC x kr = 0 by rw [tC, hl, if_neg (by simp), if_neg (by omega)])
  have hTT : (T == T) = true := by show (T.data == T.data) = true; exact beq_self_eq_true _
  have HT := Lib.hid hT
  have HX := Lib.hid hx
  have HL := Lib.hid hl
  have HR := Lib.hid hr
  have dr1 : decide (kr < 2) = false := decide_eq_false (by omega)
  have dr2 : decide (36 < kr) = false := decide_eq_false (by omega)
  have dr3 : decide (kr > 36) = false := decide_eq_false (by omega)
  subst hm
  have HZ := Lib.hid (And.intro hz hco)
  have HCo := Lib.hid (show (0 : Int) = codeOf 0 z by rw [codeOf, if_pos rfl, pCode_short hz hco]; rfl)
  have HNX := Lib.hid (bits_le hsa hna hx)
  have HA := Lib.hid (And.intro hAa hna)
  have HSZ := Lib.hid hsz
  have HSA := Lib.hid (fun w1 (hb : Below w.heap.size w w1) => hsa.below hb (Nat.le_refl _))
  have HLA := Lib.hid (And.intro hsa.len hsa.dig)
  have he0 := (Ev.var (Ev.nil w) 24 (.bool na) (.slice Aa n_a ca))
  try simp only [World.size_alloc] at he0
  have HE0 : Hid (Ev w (w.alloc (.cells #[.bool na, .slice Aa n_a ca] 24)) [.var 24 w.heap.size (.bool na) (.slice Aa n_a ca)]) := Lib.hid he0
  clear he0
  clear hsa hAa hna hx hz hco hsz hT hl
  go_enter Try.func4, Try.ntmps4
  go_upto_region 1 with fail
  generalize (w.alloc (.cells #[.bool na, .slice Aa n_a ca] 24)) = w1 at *
  go_wp2_with fail
  refine (awake_any _).mono ?_
  rintro ex w1' ⟨rfl, hb1⟩
  have HE1 : Hid (Ev w w1' [.var 24 w.heap.size (.bool na) (.slice Aa n_a ca)]) := Lib.hid (HE0.out.below hb1)
  clear hb1 
  go_upto_region 2 with fail
  go_wp2_with fail
  refine (Parse_w HSZ.out HZ.out.1 HZ.out.2 _).mono ?_
  rintro ex w2' ⟨neg2, A2, n2, c2, l2, rfl, ho2, hg2, hb2⟩
  have HG2 := Lib.hid hg2
  clear hg2
  have HE2 : Hid (Ev w (w2'.alloc (.cells #[.bool neg2, .slice A2 n2 c2] 24)) [.var 24 w2'.heap.size (.bool neg2) (.slice A2 n2 c2), .own 48 A2 n2 c2 (u32s l2), .var 24 w.heap.size (.bool na) (.slice Aa n_a ca)]) := Lib.hid (Ev.var (Ev.own HE1.out hb2 ho2) 24 (.bool neg2) (.slice A2 n2 c2))
  clear hb2 ho2 
  go_upto_region 3 with fail
  generalize (w2'.alloc (.cells #[.bool neg2, .slice A2 n2 c2] 24)) = w2 at *
  generalize w2'.heap.size = g2 at *
  go_wp2_with fail
  refine (rParse_w0 HSZ.out HZ.out.1 HZ.out.2 _).mono ?_
  rintro ex w3' ⟨A3, c3, rfl, ho3, hb3⟩
  have HE3 : Hid (Ev w (w3'.alloc (.cells #[.bool (decide (z < 0)), .slice A3 ((digs 2 z.natAbs).length) c3] 28)) [.var 28 w3'.heap.size (.bool (decide (z < 0))) (.slice A3 ((digs 2 z.natAbs).length) c3), .own 3 A3 ((digs 2 z.natAbs).length) c3 (i64s (digs 2 z.natAbs)), .var 24 g2 (.bool neg2) (.slice A2 n2 c2), .own 48 A2 n2 c2 (u32s l2), .var 24 w.heap.size (.bool na) (.slice Aa n_a ca)]) := Lib.hid (Ev.var (Ev.own HE2.out hb3 ho3) 28 (.bool (decide (z < 0))) (.slice A3 ((digs 2 z.natAbs).length) c3))
  clear hb3 ho3 
  go_upto_region 4 with fail
  generalize (w3'.alloc (.cells #[.bool (decide (z < 0)), .slice A3 ((digs 2 z.natAbs).length) c3] 28)) = w3 at *
  generalize w3'.heap.size = g3 at *
  obtain ⟨x4a, x4b, x4c, x4d⟩ := HE3.out.cells (.tail _ (.tail _ (.head _)))
  obtain ⟨x5a, x5b, x5c, x5d⟩ := HE3.out.cells (.head _)
  go_wp2_with fail
  refine (is_w (HE3.out.has (.tail _ (.tail _ (.tail _ (.head _))))) HE3.out.b.size HG2.out (bits_sl (HE3.out.has (.tail _ (.head _)))) (Nat.le_refl _) HCo.out).mono ?_
  rintro ex w6' ⟨rfl, hg6⟩
  have HE6 : Hid (Ev w w6' [.var 28 g3 (.bool (decide (z < 0))) (.slice A3 ((digs 2 z.natAbs).length) c3), .own 3 A3 ((digs 2 z.natAbs).length) c3 (i64s (digs 2 z.natAbs)), .var 24 g2 (.bool neg2) (.slice A2 n2 c2), .var 24 w.heap.size (.bool na) (.slice Aa n_a ca)]) := Lib.hid (Ev.spend [.var 28 g3 (.bool (decide (z < 0))) (.slice A3 ((digs 2 z.natAbs).length) c3), .own 3 A3 ((digs 2 z.natAbs).length) c3 (i64s (digs 2 z.natAbs)), .var 24 g2 (.bool neg2) (.slice A2 n2 c2)] (.own 48 A2 n2 c2 (u32s l2)) [.var 24 w.heap.size (.bool na) (.slice Aa n_a ca)] HE3.out hg6)
  clear hg6 x4a x4b x4c x4d x5a x5b x5c x5d
  go_upto_region 5 with fail
  obtain ⟨x7a, x7b, x7c, x7d⟩ := HE6.out.cells (.tail _ (.tail _ (.tail _ (.head _))))
  go_wp2_with fail
  refine (Of_w ((HSA.out _ HE6.out.b).mono HE6.out.b.size) HA.out.2 HX.out).mono ?_
  rintro ex w8' ⟨v, rfl, ⟨A8, c8, rfl, ho8⟩, hb8⟩
  have HE8 : Hid (Ev w (w8'.alloc (.cells #[.bool (decide (x < 0)), .slice A8 ((digs 2 x.natAbs).length) c8] 28)) [.var 28 w8'.heap.size (.bool (decide (x < 0))) (.slice A8 ((digs 2 x.natAbs).length) c8), .own 3 A8 ((digs 2 x.natAbs).length) c8 (i64s (digs 2 x.natAbs)), .var 28 g3 (.bool (decide (z < 0))) (.slice A3 ((digs 2 z.natAbs).length) c3), .own 3 A3 ((digs 2 z.natAbs).length) c3 (i64s (digs 2 z.natAbs)), .var 24 g2 (.bool neg2) (.slice A2 n2 c2), .var 24 w.heap.size (.bool na) (.slice Aa n_a ca)]) := Lib.hid (Ev.var (Ev.own HE6.out hb8 ho8) 28 (.bool (decide (x < 0))) (.slice A8 ((digs 2 x.natAbs).length) c8))
  clear hb8 ho8 x7a x7b x7c x7d
  go_upto_region 6 with fail
  generalize (w8'.alloc (.cells #[.bool (decide (x < 0)), .slice A8 ((digs 2 x.natAbs).length) c8] 28)) = w8 at *
  generalize w8'.heap.size = g8 at *
  obtain ⟨x9a, x9b, x9c, x9d⟩ := HE8.out.cells (.tail _ (.tail _ (.tail _ (.tail _ (.tail _ (.head _))))))
  go_wp2_with fail
  refine (lent_any na ((HSA.out _ HE8.out.b).mono HE8.out.b.size) HA.out.1 (Nat.le_trans HA.out.2 (by decide)) (Nat.le_refl _)).mono ?_
  rintro ex w10' ⟨gl10, c10, rfl, ho10, hb10⟩
  have HE10 : Hid (Ev w (w10'.alloc (.cells #[.bool na, .slice (some ⟨gl10, 0, none⟩) n_a c10] 24)) [.var 24 w10'.heap.size (.bool na) (.slice (some ⟨gl10, 0, none⟩) n_a c10), .own 48 (some ⟨gl10, 0, none⟩) (n_a + 3) c10 (u32s (la ++ [77, 77, 77])), .var 28 g8 (.bool (decide (x < 0))) (.slice A8 ((digs 2 x.natAbs).length) c8), .own 3 A8 ((digs 2 x.natAbs).length) c8 (i64s (digs 2 x.natAbs)), .var 28 g3 (.bool (decide (z < 0))) (.slice A3 ((digs 2 z.natAbs).length) c3), .own 3 A3 ((digs 2 z.natAbs).length) c3 (i64s (digs 2 z.natAbs)), .var 24 g2 (.bool neg2) (.slice A2 n2 c2), .var 24 w.heap.size (.bool na) (.slice Aa n_a ca)]) := Lib.hid (Ev.var (Ev.own HE8.out hb10 ho10) 24 (.bool na) (.slice (some ⟨gl10, 0, none⟩) n_a c10))
  clear hb10 ho10 x9a x9b x9c x9d
  go_upto_region 7 with fail
  generalize (w10'.alloc (.cells #[.bool na, .slice (some ⟨gl10, 0, none⟩) n_a c10] 24)) = w10 at *
  generalize w10'.heap.size = g10 at *
  obtain ⟨x11a, x11b, x11c, x11d⟩ := HE10.out.cells (.head _)
  go_wp2_with fail
  refine (Text_t (lent_sl (HE10.out.has (.tail _ (.head _))) HLA.out.1 HLA.out.2) HA.out.2 HX.out HT.out HTC.out).mono ?_
  rintro ex w12' ⟨rfl, hb12⟩
  have HE12 : Hid (Ev w w12' [.var 24 g10 (.bool na) (.slice (some ⟨gl10, 0, none⟩) n_a c10), .own 48 (some ⟨gl10, 0, none⟩) (n_a + 3) c10 (u32s (la ++ [77, 77, 77])), .var 28 g8 (.bool (decide (x < 0))) (.slice A8 ((digs 2 x.natAbs).length) c8), .own 3 A8 ((digs 2 x.natAbs).length) c8 (i64s (digs 2 x.natAbs)), .var 28 g3 (.bool (decide (z < 0))) (.slice A3 ((digs 2 z.natAbs).length) c3), .own 3 A3 ((digs 2 z.natAbs).length) c3 (i64s (digs 2 z.natAbs)), .var 24 g2 (.bool neg2) (.slice A2 n2 c2), .var 24 w.heap.size (.bool na) (.slice Aa n_a ca)]) := Lib.hid (HE10.out.below hb12)
  clear hb12 x11a x11b x11c x11d
  go_upto_region 8 with fail
  obtain ⟨x13a, x13b, x13c, x13d⟩ := HE12.out.cells (.head _)
  obtain ⟨x14a, x14b, x14c, x14d⟩ := HE12.out.cells (.tail _ (.tail _ (.tail _ (.tail _ (.tail _ (.tail _ (.tail _ (.head _))))))))
  go_wp2_with fail
  refine (held_any na (HSA.out _ HE12.out.b) ((HE12.out.2.1 _ (.tail _ (.head _))).2 _ rfl).1 ((HE12.out.2.1 _ (.tail _ (.head _))).2 _ rfl).2 (HE12.out.has (.tail _ (.head _)))).mono ?_
  rintro ex w15' ⟨rfl, hg15⟩
  have HE15 : Hid (Ev w w15' [.var 24 g10 (.bool na) (.slice (some ⟨gl10, 0, none⟩) n_a c10), .var 28 g8 (.bool (decide (x < 0))) (.slice A8 ((digs 2 x.natAbs).length) c8), .own 3 A8 ((digs 2 x.natAbs).length) c8 (i64s (digs 2 x.natAbs)), .var 28 g3 (.bool (decide (z < 0))) (.slice A3 ((digs 2 z.natAbs).length) c3), .own 3 A3 ((digs 2 z.natAbs).length) c3 (i64s (digs 2 z.natAbs)), .var 24 g2 (.bool neg2) (.slice A2 n2 c2), .var 24 w.heap.size (.bool na) (.slice Aa n_a ca)]) := Lib.hid (Ev.spend [.var 24 g10 (.bool na) (.slice (some ⟨gl10, 0, none⟩) n_a c10)] (.own 48 (some ⟨gl10, 0, none⟩) (n_a + 3) c10 (u32s (la ++ [77, 77, 77]))) [.var 28 g8 (.bool (decide (x < 0))) (.slice A8 ((digs 2 x.natAbs).length) c8), .own 3 A8 ((digs 2 x.natAbs).length) c8 (i64s (digs 2 x.natAbs)), .var 28 g3 (.bool (decide (z < 0))) (.slice A3 ((digs 2 z.natAbs).length) c3), .own 3 A3 ((digs 2 z.natAbs).length) c3 (i64s (digs 2 z.natAbs)), .var 24 g2 (.bool neg2) (.slice A2 n2 c2), .var 24 w.heap.size (.bool na) (.slice Aa n_a ca)] HE12.out hg15)
  clear hg15 x13a x13b x13c x13d x14a x14b x14c x14d
  go_upto_region 9 with fail
  obtain ⟨x16a, x16b, x16c, x16d⟩ := HE15.out.cells (.tail _ (.head _))
  go_wp2_with fail
  refine (Long_b HL.out _ _ _ _).mono ?_
  rintro ex w17' ⟨rfl, hb17⟩
  have HE17 : Hid (Ev w w17' [.var 24 g10 (.bool na) (.slice (some ⟨gl10, 0, none⟩) n_a c10), .var 28 g8 (.bool (decide (x < 0))) (.slice A8 ((digs 2 x.natAbs).length) c8), .own 3 A8 ((digs 2 x.natAbs).length) c8 (i64s (digs 2 x.natAbs)), .var 28 g3 (.bool (decide (z < 0))) (.slice A3 ((digs 2 z.natAbs).length) c3), .own 3 A3 ((digs 2 z.natAbs).length) c3 (i64s (digs 2 z.natAbs)), .var 24 g2 (.bool neg2) (.slice A2 n2 c2), .var 24 w.heap.size (.bool na) (.slice Aa n_a ca)]) := Lib.hid (HE15.out.below hb17)
  clear hb17 x16a x16b x16c x16d
  obtain ⟨x18a, x18b, x18c, x18d⟩ := HE17.out.cells (.tail _ (.head _))
  go_wp2_with fail
  refine (rText_t (bits_sl (HE17.out.has (.tail _ (.tail _ (.head _))))) HL.out HR.out HT.out).mono ?_
  rintro ex w19' ⟨rfl, hb19⟩
  have HE19 : Hid (Ev w w19' [.var 24 g10 (.bool na) (.slice (some ⟨gl10, 0, none⟩) n_a c10), .var 28 g8 (.bool (decide (x < 0))) (.slice A8 ((digs 2 x.natAbs).length) c8), .own 3 A8 ((digs 2 x.natAbs).length) c8 (i64s (digs 2 x.natAbs)), .var 28 g3 (.bool (decide (z < 0))) (.slice A3 ((digs 2 z.natAbs).length) c3), .own 3 A3 ((digs 2 z.natAbs).length) c3 (i64s (digs 2 z.natAbs)), .var 24 g2 (.bool neg2) (.slice A2 n2 c2), .var 24 w.heap.size (.bool na) (.slice Aa n_a ca)]) := Lib.hid (HE17.out.below hb19)
  clear hb19 x18a x18b x18c x18d
  go_wp2
  go_ret
  exact ⟨by first | rfl | simp, HE19.out.b⟩
set_option maxRecDepth 100000 in
set_option maxHeartbeats 16000000 in
theorem Texts_bad_long (s : ByteArray) (kr : Int) (hkr : -9223372036854775808 ≤ kr ∧ kr ≤ 9223372036854775807) (hsz : s.size ≤ 1048576) (na : Bool) {Aa : Option Addr} {la : List Nat} {n_a ca : Nat} {w : World} (hsa : SlU w w.heap.size Aa n_a ca la) (hAa : Aa = none → ca = 0) (hna : n_a ≤ 1048576)
    {x z co : Int} (hx : ival na la = x) (hz : pVal s.data.toList kr = z) (hco : pCode s.data.toList kr = co) (hm : co ≠ 0) (hl : tooLong x = true) :
    Calls Try.prog 4 #[.string s, .agg #[.bool na, .slice Aa n_a ca], .int .i64 kr] w fun e w' => e = .returned (.bool true) ∧ Below w.heap.size w w' := by
  obtain ⟨T, hT⟩ : ∃ T, strN (tL x kr) = T := ⟨_, rfl⟩
  have HTC := Lib.hid (show tC x kr = 10 by rw [tC, hl, if_pos rfl])
  have hT0 : T = ⟨#[]⟩ := by rw [← hT, tL, hl, if_pos rfl]; rfl
  subst hT0
  have HT := Lib.hid hT
  have HX := Lib.hid hx
  have HL := Lib.hid hl
  have HZ := Lib.hid (And.intro hz hco)
  have HM := Lib.hid hm
  have HNX := Lib.hid (bits_le hsa hna hx)
  have HA := Lib.hid (And.intro hAa hna)
  have HSZ := Lib.hid hsz
  have HSA := Lib.hid (fun w1 (hb : Below w.heap.size w w1) => hsa.below hb (Nat.le_refl _))
  have HLA := Lib.hid (And.intro hsa.len hsa.dig)
  have he0 := (Ev.var (Ev.nil w) 24 (.bool na) (.slice Aa n_a ca))
  try simp only [World.size_alloc] at he0
  have HE0 : Hid (Ev w (w.alloc (.cells #[.bool na, .slice Aa n_a ca] 24)) [.var 24 w.heap.size (.bool na) (.slice Aa n_a ca)]) := Lib.hid he0
  clear he0
  clear hsa hAa hna hx hz hco hsz hT hl hm
  go_enter Try.func4, Try.ntmps4
  go_upto_region 1 with fail
  generalize (w.alloc (.cells #[.bool na, .slice Aa n_a ca] 24)) = w1 at *
  go_wp2_with fail
  refine (awake_any _).mono ?_
  rintro ex w1' ⟨rfl, hb1⟩
  have HE1 : Hid (Ev w w1' [.var 24 w.heap.size (.bool na) (.slice Aa n_a ca)]) := Lib.hid (HE0.out.below hb1)
  clear hb1 
  go_upto_region 2 with fail
  go_wp2_with fail
  refine (Parse_w HSZ.out HZ.out.1 HZ.out.2 _).mono ?_
  rintro ex w2' ⟨neg2, A2, n2, c2, l2, rfl, ho2, hg2, hb2⟩
  have HG2 := Lib.hid hg2
  clear hg2
  have HE2 : Hid (Ev w (w2'.alloc (.cells #[.bool neg2, .slice A2 n2 c2] 24)) [.var 24 w2'.heap.size (.bool neg2) (.slice A2 n2 c2), .own 48 A2 n2 c2 (u32s l2), .var 24 w.heap.size (.bool na) (.slice Aa n_a ca)]) := Lib.hid (Ev.var (Ev.own HE1.out hb2 ho2) 24 (.bool neg2) (.slice A2 n2 c2))
  clear hb2 ho2 
  go_upto_region 3 with fail
  generalize (w2'.alloc (.cells #[.bool neg2, .slice A2 n2 c2] 24)) = w2 at *
  generalize w2'.heap.size = g2 at *
  go_wp2_with fail
  refine (rParse_w1 HSZ.out HZ.out.2 HM.out _).mono ?_
  rintro ex w3' ⟨rfl, hb3⟩
  have HE3 : Hid (Ev w (w3'.alloc (.cells #[.bool false, .slice none 0 0] 28)) [.var 28 w3'.heap.size (.bool false) (.slice none 0 0), .var 24 g2 (.bool neg2) (.slice A2 n2 c2), .own 48 A2 n2 c2 (u32s l2), .var 24 w.heap.size (.bool na) (.slice Aa n_a ca)]) := Lib.hid (Ev.var (Ev.below HE2.out hb3) 28 (.bool false) (.slice none 0 0))
  clear hb3 
  go_upto_region 4 with fail
  generalize (w3'.alloc (.cells #[.bool false, .slice none 0 0] 28)) = w3 at *
  generalize w3'.heap.size = g3 at *
  obtain ⟨rfl, rfl⟩ := HG2.out.2 HM.out
  obtain ⟨x4a, x4b, x4c, x4d⟩ := HE3.out.cells (.tail _ (.head _))
  obtain ⟨x5a, x5b, x5c, x5d⟩ := HE3.out.cells (.head _)
  go_wp2_with fail
  refine (is_bad false _ none _ 0 0 co co _ (Option.map Addr.block A2) HM.out (.inl rfl)).mono ?_
  rintro ex w6' ⟨rfl, hg6⟩
  have HE6 : Hid (Ev w w6' [.var 28 g3 (.bool false) (.slice none 0 0), .var 24 g2 (.bool false) (.slice A2 0 c2), .var 24 w.heap.size (.bool na) (.slice Aa n_a ca)]) := Lib.hid (Ev.spend [.var 28 g3 (.bool false) (.slice none 0 0), .var 24 g2 (.bool false) (.slice A2 0 c2)] (.own 48 A2 0 c2 (u32s l2)) [.var 24 w.heap.size (.bool na) (.slice Aa n_a ca)] HE3.out hg6)
  clear hg6 x4a x4b x4c x4d x5a x5b x5c x5d
  go_upto_region 5 with fail
  obtain ⟨x7a, x7b, x7c, x7d⟩ := HE6.out.cells (.tail _ (.tail _ (.head _)))
  go_wp2_with fail
  refine (Of_w ((HSA.out _ HE6.out.b).mono HE6.out.b.size) HA.out.2 HX.out).mono ?_
  rintro ex w8' ⟨v, rfl, ⟨A8, c8, rfl, ho8⟩, hb8⟩
  have HE8 : Hid (Ev w (w8'.alloc (.cells #[.bool (decide (x < 0)), .slice A8 ((digs 2 x.natAbs).length) c8] 28)) [.var 28 w8'.heap.size (.bool (decide (x < 0))) (.slice A8 ((digs 2 x.natAbs).length) c8), .own 3 A8 ((digs 2 x.natAbs).length) c8 (i64s (digs 2 x.natAbs)), .var 28 g3 (.bool false) (.slice none 0 0), .var 24 g2 (.bool false) (.slice A2 0 c2), .var 24 w.heap.size (.bool na) (.slice Aa n_a ca)]) := Lib.hid (Ev.var (Ev.own HE6.out hb8 ho8) 28 (.bool (decide (x < 0))) (.slice A8 ((digs 2 x.natAbs).length) c8))
  clear hb8 ho8 x7a x7b x7c x7d
  go_upto_region 6 with fail
  generalize (w8'.alloc (.cells #[.bool (decide (x < 0)), .slice A8 ((digs 2 x.natAbs).length) c8] 28)) = w8 at *
  generalize w8'.heap.size = g8 at *
  obtain ⟨x9a, x9b, x9c, x9d⟩ := HE8.out.cells (.tail _ (.tail _ (.tail _ (.tail _ (.head _)))))
  go_wp2_with fail
  refine (lent_any na ((HSA.out _ HE8.out.b).mono HE8.out.b.size) HA.out.1 (Nat.le_trans HA.out.2 (by decide)) (Nat.le_refl _)).mono ?_
  rintro ex w10' ⟨gl10, c10, rfl, ho10, hb10⟩
  have HE10 : Hid (Ev w (w10'.alloc (.cells #[.bool na, .slice (some ⟨gl10, 0, none⟩) n_a c10] 24)) [.var 24 w10'.heap.size (.bool na) (.slice (some ⟨gl10, 0, none⟩) n_a c10), .own 48 (some ⟨gl10, 0, none⟩) (n_a + 3) c10 (u32s (la ++ [77, 77, 77])), .var 28 g8 (.bool (decide (x < 0))) (.slice A8 ((digs 2 x.natAbs).length) c8), .own 3 A8 ((digs 2 x.natAbs).length) c8 (i64s (digs 2 x.natAbs)), .var 28 g3 (.bool false) (.slice none 0 0), .var 24 g2 (.bool false) (.slice A2 0 c2), .var 24 w.heap.size (.bool na) (.slice Aa n_a ca)]) := Lib.hid (Ev.var (Ev.own HE8.out hb10 ho10) 24 (.bool na) (.slice (some ⟨gl10, 0, none⟩) n_a c10))
  clear hb10 ho10 x9a x9b x9c x9d
  go_upto_region 7 with fail
  generalize (w10'.alloc (.cells #[.bool na, .slice (some ⟨gl10, 0, none⟩) n_a c10] 24)) = w10 at *
  generalize w10'.heap.size = g10 at *
  obtain ⟨x11a, x11b, x11c, x11d⟩ := HE10.out.cells (.head _)
  go_wp2_with fail
  refine (Text_t (lent_sl (HE10.out.has (.tail _ (.head _))) HLA.out.1 HLA.out.2) HA.out.2 HX.out HT.out HTC.out).mono ?_
  rintro ex w12' ⟨rfl, hb12⟩
  have HE12 : Hid (Ev w w12' [.var 24 g10 (.bool na) (.slice (some ⟨gl10, 0, none⟩) n_a c10), .own 48 (some ⟨gl10, 0, none⟩) (n_a + 3) c10 (u32s (la ++ [77, 77, 77])), .var 28 g8 (.bool (decide (x < 0))) (.slice A8 ((digs 2 x.natAbs).length) c8), .own 3 A8 ((digs 2 x.natAbs).length) c8 (i64s (digs 2 x.natAbs)), .var 28 g3 (.bool false) (.slice none 0 0), .var 24 g2 (.bool false) (.slice A2 0 c2), .var 24 w.heap.size (.bool na) (.slice Aa n_a ca)]) := Lib.hid (HE10.out.below hb12)
  clear hb12 x11a x11b x11c x11d
  go_upto_region 8 with fail
  obtain ⟨x13a, x13b, x13c, x13d⟩ := HE12.out.cells (.head _)
  obtain ⟨x14a, x14b, x14c, x14d⟩ := HE12.out.cells (.tail _ (.tail _ (.tail _ (.tail _ (.tail _ (.tail _ (.head _)))))))
  go_wp2_with fail
  refine (held_any na (HSA.out _ HE12.out.b) ((HE12.out.2.1 _ (.tail _ (.head _))).2 _ rfl).1 ((HE12.out.2.1 _ (.tail _ (.head _))).2 _ rfl).2 (HE12.out.has (.tail _ (.head _)))).mono ?_
  rintro ex w15' ⟨rfl, hg15⟩
  have HE15 : Hid (Ev w w15' [.var 24 g10 (.bool na) (.slice (some ⟨gl10, 0, none⟩) n_a c10), .var 28 g8 (.bool (decide (x < 0))) (.slice A8 ((digs 2 x.natAbs).length) c8), .own 3 A8 ((digs 2 x.natAbs).length) c8 (i64s (digs 2 x.natAbs)), .var 28 g3 (.bool false) (.slice none 0 0), .var 24 g2 (.bool false) (.slice A2 0 c2), .var 24 w.heap.size (.bool na) (.slice Aa n_a ca)]) := Lib.hid (Ev.spend [.var 24 g10 (.bool na) (.slice (some ⟨gl10, 0, none⟩) n_a c10)] (.own 48 (some ⟨gl10, 0, none⟩) (n_a + 3) c10 (u32s (la ++ [77, 77, 77]))) [.var 28 g8 (.bool (decide (x < 0))) (.slice A8 ((digs 2 x.natAbs).length) c8), .own 3 A8 ((digs 2 x.natAbs).length) c8 (i64s (digs 2 x.natAbs)), .var 28 g3 (.bool false) (.slice none 0 0), .var 24 g2 (.bool false) (.slice A2 0 c2), .var 24 w.heap.size (.bool na) (.slice Aa n_a ca)] HE12.out hg15)
  clear hg15 x13a x13b x13c x13d x14a x14b x14c x14d
  go_upto_region 9 with fail
  obtain ⟨x16a, x16b, x16c, x16d⟩ := HE15.out.cells (.tail _ (.head _))
  go_wp2_with fail
  refine (Long_b HL.out _ _ _ _).mono ?_
  rintro ex w17' ⟨rfl, hb17⟩
  have HE17 : Hid (Ev w w17' [.var 24 g10 (.bool na) (.slice (some ⟨gl10, 0, none⟩) n_a c10), .var 28 g8 (.bool (decide (x < 0))) (.slice A8 ((digs 2 x.natAbs).length) c8), .own 3 A8 ((digs 2 x.natAbs).length) c8 (i64s (digs 2 x.natAbs)), .var 28 g3 (.bool false) (.slice none 0 0), .var 24 g2 (.bool false) (.slice A2 0 c2), .var 24 w.heap.size (.bool na) (.slice Aa n_a ca)]) := Lib.hid (HE15.out.below hb17)
  clear hb17 x16a x16b x16c x16d
  go_wp2
  go_ret
  exact ⟨by first | rfl | simp, HE17.out.b⟩
set_option maxRecDepth 100000 in
set_option maxHeartbeats 16000000 in
theorem Texts_bad_radix (s : ByteArray) (kr : Int) (hkr : -9223372036854775808 ≤ kr ∧ kr ≤ 9223372036854775807) (hsz : s.size ≤ 1048576) (na : Bool) {Aa : Option Addr} {la : List Nat} {n_a ca : Nat} {w : World} (hsa : SlU w w.heap.size Aa n_a ca la) (hAa : Aa = none → ca = 0) (hna : n_a ≤ 1048576)
    {x z co : Int} (hx : ival na la = x) (hz : pVal s.data.toList kr = z) (hco : pCode s.data.toList kr = co) (hm : co ≠ 0) (hl : tooLong x = false) (hr : kr < 2 ∨ 36 < kr) :
    Calls Try.prog 4 #[.string s, .agg #[.bool na, .slice Aa n_a ca], .int .i64 kr] w fun e w' => e = .returned (.bool true) ∧ Below w.heap.size w w' := by
  obtain ⟨T, hT⟩ : ∃ T, strN (tL x kr) = T := ⟨_, rfl⟩
  have HTC := Lib.hid (show tC x kr = 13 by rw [tC, hl, if_neg (by simp), if_pos hr])
  have hT0 : T = ⟨#[]⟩ := by rw [← hT, tL, hl, if_neg (by simp), if_pos hr]; rfl
  subst hT0
  have HT := Lib.hid hT
  have HX := Lib.hid hx
  have HL := Lib.hid hl
  have HZ := Lib.hid (And.intro hz hco)
  have HM := Lib.hid hm
  have HNX := Lib.hid (bits_le hsa hna hx)
  have HA := Lib.hid (And.intro hAa hna)
  have HSZ := Lib.hid hsz
  have HSA := Lib.hid (fun w1 (hb : Below w.heap.size w w1) => hsa.below hb (Nat.le_refl _))
  have HLA := Lib.hid (And.intro hsa.len hsa.dig)
  have he0 := (Ev.var (Ev.nil w) 24 (.bool na) (.slice Aa n_a ca))
  try simp only [World.size_alloc] at he0
  have HE0 : Hid (Ev w (w.alloc (.cells #[.bool na, .slice Aa n_a ca] 24)) [.var 24 w.heap.size (.bool na) (.slice Aa n_a ca)]) := Lib.hid he0
  clear he0
  clear hsa hAa hna hx hz hco hsz hT hl hm
  go_enter Try.func4, Try.ntmps4
  go_upto_region 1 with fail
  generalize (w.alloc (.cells #[.bool na, .slice Aa n_a ca] 24)) = w1 at *
  go_wp2_with fail
  refine (awake_any _).mono ?_
  rintro ex w1' ⟨rfl, hb1⟩
  have HE1 : Hid (Ev w w1' [.var 24 w.heap.size (.bool na) (.slice Aa n_a ca)]) := Lib.hid (HE0.out.below hb1)
  clear hb1 
  go_upto_region 2 with fail
  go_wp2_with fail
  refine (Parse_w HSZ.out HZ.out.1 HZ.out.2 _).mono ?_
  rintro ex w2' ⟨neg2, A2, n2, c2, l2, rfl, ho2, hg2, hb2⟩
  have HG2 := Lib.hid hg2
  clear hg2
  have HE2 : Hid (Ev w (w2'.alloc (.cells #[.bool neg2, .slice A2 n2 c2] 24)) [.var 24 w2'.heap.size (.bool neg2) (.slice A2 n2 c2), .own 48 A2 n2 c2 (u32s l2), .var 24 w.heap.size (.bool na) (.slice Aa n_a ca)]) := Lib.hid (Ev.var (Ev.own HE1.out hb2 ho2) 24 (.bool neg2) (.slice A2 n2 c2))
  clear hb2 ho2 
  go_upto_region 3 with fail
  generalize (w2'.alloc (.cells #[.bool neg2, .slice A2 n2 c2] 24)) = w2 at *
  generalize w2'.heap.size = g2 at *
  go_wp2_with fail
  refine (rParse_w1 HSZ.out HZ.out.2 HM.out _).mono ?_
  rintro ex w3' ⟨rfl, hb3⟩
  have HE3 : Hid (Ev w (w3'.alloc (.cells #[.bool false, .slice none 0 0] 28)) [.var 28 w3'.heap.size (.bool false) (.slice none 0 0), .var 24 g2 (.bool neg2) (.slice A2 n2 c2), .own 48 A2 n2 c2 (u32s l2), .var 24 w.heap.size (.bool na) (.slice Aa n_a ca)]) := Lib.hid (Ev.var (Ev.below HE2.out hb3) 28 (.bool false) (.slice none 0 0))
  clear hb3 
  go_upto_region 4 with fail
  generalize (w3'.alloc (.cells #[.bool false, .slice none 0 0] 28)) = w3 at *
  generalize w3'.heap.size = g3 at *
  obtain ⟨rfl, rfl⟩ := HG2.out.2 HM.out
  obtain ⟨x4a, x4b, x4c, x4d⟩ := HE3.out.cells (.tail _ (.head _))
  obtain ⟨x5a, x5b, x5c, x5d⟩ := HE3.out.cells (.head _)
  go_wp2_with fail
  refine (is_bad false _ none _ 0 0 co co _ (Option.map Addr.block A2) HM.out (.inl rfl)).mono ?_
  rintro ex w6' ⟨rfl, hg6⟩
  have HE6 : Hid (Ev w w6' [.var 28 g3 (.bool false) (.slice none 0 0), .var 24 g2 (.bool false) (.slice A2 0 c2), .var 24 w.heap.size (.bool na) (.slice Aa n_a ca)]) := Lib.hid (Ev.spend [.var 28 g3 (.bool false) (.slice none 0 0), .var 24 g2 (.bool false) (.slice A2 0 c2)] (.own 48 A2 0 c2 (u32s l2)) [.var 24 w.heap.size (.bool na) (.slice Aa n_a ca)] HE3.out hg6)
  clear hg6 x4a x4b x4c x4d x5a x5b x5c x5d
  go_upto_region 5 with fail
  obtain ⟨x7a, x7b, x7c, x7d⟩ := HE6.out.cells (.tail _ (.tail _ (.head _)))
  go_wp2_with fail
  refine (Of_w ((HSA.out _ HE6.out.b).mono HE6.out.b.size) HA.out.2 HX.out).mono ?_
  rintro ex w8' ⟨v, rfl, ⟨A8, c8, rfl, ho8⟩, hb8⟩
  have HE8 : Hid (Ev w (w8'.alloc (.cells #[.bool (decide (x < 0)), .slice A8 ((digs 2 x.natAbs).length) c8] 28)) [.var 28 w8'.heap.size (.bool (decide (x < 0))) (.slice A8 ((digs 2 x.natAbs).length) c8), .own 3 A8 ((digs 2 x.natAbs).length) c8 (i64s (digs 2 x.natAbs)), .var 28 g3 (.bool false) (.slice none 0 0), .var 24 g2 (.bool false) (.slice A2 0 c2), .var 24 w.heap.size (.bool na) (.slice Aa n_a ca)]) := Lib.hid (Ev.var (Ev.own HE6.out hb8 ho8) 28 (.bool (decide (x < 0))) (.slice A8 ((digs 2 x.natAbs).length) c8))
  clear hb8 ho8 x7a x7b x7c x7d
  go_upto_region 6 with fail
  generalize (w8'.alloc (.cells #[.bool (decide (x < 0)), .slice A8 ((digs 2 x.natAbs).length) c8] 28)) = w8 at *
  generalize w8'.heap.size = g8 at *
  obtain ⟨x9a, x9b, x9c, x9d⟩ := HE8.out.cells (.tail _ (.tail _ (.tail _ (.tail _ (.head _)))))
  go_wp2_with fail
  refine (lent_any na ((HSA.out _ HE8.out.b).mono HE8.out.b.size) HA.out.1 (Nat.le_trans HA.out.2 (by decide)) (Nat.le_refl _)).mono ?_
  rintro ex w10' ⟨gl10, c10, rfl, ho10, hb10⟩
  have HE10 : Hid (Ev w (w10'.alloc (.cells #[.bool na, .slice (some ⟨gl10, 0, none⟩) n_a c10] 24)) [.var 24 w10'.heap.size (.bool na) (.slice (some ⟨gl10, 0, none⟩) n_a c10), .own 48 (some ⟨gl10, 0, none⟩) (n_a + 3) c10 (u32s (la ++ [77, 77, 77])), .var 28 g8 (.bool (decide (x < 0))) (.slice A8 ((digs 2 x.natAbs).length) c8), .own 3 A8 ((digs 2 x.natAbs).length) c8 (i64s (digs 2 x.natAbs)), .var 28 g3 (.bool false) (.slice none 0 0), .var 24 g2 (.bool false) (.slice A2 0 c2), .var 24 w.heap.size (.bool na) (.slice Aa n_a ca)]) := Lib.hid (Ev.var (Ev.own HE8.out hb10 ho10) 24 (.bool na) (.slice (some ⟨gl10, 0, none⟩) n_a c10))
  clear hb10 ho10 x9a x9b x9c x9d
  go_upto_region 7 with fail
  generalize (w10'.alloc (.cells #[.bool na, .slice (some ⟨gl10, 0, none⟩) n_a c10] 24)) = w10 at *
  generalize w10'.heap.size = g10 at *
  obtain ⟨x11a, x11b, x11c, x11d⟩ := HE10.out.cells (.head _)
  go_wp2_with fail
  refine (Text_t (lent_sl (HE10.out.has (.tail _ (.head _))) HLA.out.1 HLA.out.2) HA.out.2 HX.out HT.out HTC.out).mono ?_
  rintro ex w12' ⟨rfl, hb12⟩
  have HE12 : Hid (Ev w w12' [.var 24 g10 (.bool na) (.slice (some ⟨gl10, 0, none⟩) n_a c10), .own 48 (some ⟨gl10, 0, none⟩) (n_a + 3) c10 (u32s (la ++ [77, 77, 77])), .var 28 g8 (.bool (decide (x < 0))) (.slice A8 ((digs 2 x.natAbs).length) c8), .own 3 A8 ((digs 2 x.natAbs).length) c8 (i64s (digs 2 x.natAbs)), .var 28 g3 (.bool false) (.slice none 0 0), .var 24 g2 (.bool false) (.slice A2 0 c2), .var 24 w.heap.size (.bool na) (.slice Aa n_a ca)]) := Lib.hid (HE10.out.below hb12)
  clear hb12 x11a x11b x11c x11d
  go_upto_region 8 with fail
  obtain ⟨x13a, x13b, x13c, x13d⟩ := HE12.out.cells (.head _)
  obtain ⟨x14a, x14b, x14c, x14d⟩ := HE12.out.cells (.tail _ (.tail _ (.tail _ (.tail _ (.tail _ (.tail _ (.head _)))))))
  go_wp2_with fail
  refine (held_any na (HSA.out _ HE12.out.b) ((HE12.out.2.1 _ (.tail _ (.head _))).2 _ rfl).1 ((HE12.out.2.1 _ (.tail _ (.head _))).2 _ rfl).2 (HE12.out.has (.tail _ (.head _)))).mono ?_
  rintro ex w15' ⟨rfl, hg15⟩
  have HE15 : Hid (Ev w w15' [.var 24 g10 (.bool na) (.slice (some ⟨gl10, 0, none⟩) n_a c10), .var 28 g8 (.bool (decide (x < 0))) (.slice A8 ((digs 2 x.natAbs).length) c8), .own 3 A8 ((digs 2 x.natAbs).length) c8 (i64s (digs 2 x.natAbs)), .var 28 g3 (.bool false) (.slice none 0 0), .var 24 g2 (.bool false) (.slice A2 0 c2), .var 24 w.heap.size (.bool na) (.slice Aa n_a ca)]) := Lib.hid (Ev.spend [.var 24 g10 (.bool na) (.slice (some ⟨gl10, 0, none⟩) n_a c10)] (.own 48 (some ⟨gl10, 0, none⟩) (n_a + 3) c10 (u32s (la ++ [77, 77, 77]))) [.var 28 g8 (.bool (decide (x < 0))) (.slice A8 ((digs 2 x.natAbs).length) c8), .own 3 A8 ((digs 2 x.natAbs).length) c8 (i64s (digs 2 x.natAbs)), .var 28 g3 (.bool false) (.slice none 0 0), .var 24 g2 (.bool false) (.slice A2 0 c2), .var 24 w.heap.size (.bool na) (.slice Aa n_a ca)] HE12.out hg15)
  clear hg15 x13a x13b x13c x13d x14a x14b x14c x14d
  go_upto_region 9 with fail
  obtain ⟨x16a, x16b, x16c, x16d⟩ := HE15.out.cells (.tail _ (.head _))
  go_wp2_with fail
  refine (Long_b HL.out _ _ _ _).mono ?_
  rintro ex w17' ⟨rfl, hb17⟩
  have HE17 : Hid (Ev w w17' [.var 24 g10 (.bool na) (.slice (some ⟨gl10, 0, none⟩) n_a c10), .var 28 g8 (.bool (decide (x < 0))) (.slice A8 ((digs 2 x.natAbs).length) c8), .own 3 A8 ((digs 2 x.natAbs).length) c8 (i64s (digs 2 x.natAbs)), .var 28 g3 (.bool false) (.slice none 0 0), .var 24 g2 (.bool false) (.slice A2 0 c2), .var 24 w.heap.size (.bool na) (.slice Aa n_a ca)]) := Lib.hid (HE15.out.below hb17)
  clear hb17 x16a x16b x16c x16d
  rcases hr with hr | hr
  all_goals
    first | (have dq : decide (kr < 2) = true := decide_eq_true hr) | (have dq1 : decide (kr < 2) = false := decide_eq_false (by omega))
    try (have dq2 : decide (36 < kr) = true := decide_eq_true hr)
    go_wp2
    go_ret
    exact ⟨by first | rfl | simp, HE17.out.b⟩
set_option maxRecDepth 100000 in
set_option maxHeartbeats 16000000 in
theorem Texts_bad_ok (s : ByteArray) (kr : Int) (hkr : -9223372036854775808 ≤ kr ∧ kr ≤ 9223372036854775807) (hsz : s.size ≤ 1048576) (na : Bool) {Aa : Option Addr} {la : List Nat} {n_a ca : Nat} {w : World} (hsa : SlU w w.heap.size Aa n_a ca la) (hAa : Aa = none → ca = 0) (hna : n_a ≤ 1048576)
    {x z co : Int} (hx : ival na la = x) (hz : pVal s.data.toList kr = z) (hco : pCode s.data.toList kr = co) (hm : co ≠ 0) (hl : tooLong x = false) (hr : 2 ≤ kr ∧ kr ≤ 36) :
    Calls Try.prog 4 #[.string s, .agg #[.bool na, .slice Aa n_a ca], .int .i64 kr] w fun e w' => e = .returned (.bool true) ∧ Below w.heap.size w w' := by
  obtain ⟨T, hT⟩ : ∃ T, strN (tL x kr) = T := ⟨_, rfl⟩
  have HTC := Lib.hid (show tC x kr = 0 by rw [tC, hl, if_neg (by simp), if_neg (by omega)])
  have hTT : (T == T) = true := by show (T.data == T.data) = true; exact beq_self_eq_true _
  have HT := Lib.hid hT
  have HX := Lib.hid hx
  have HL := Lib.hid hl
  have HR := Lib.hid hr
  have dr1 : decide (kr < 2) = false := decide_eq_false (by omega)
  have dr2 : decide (36 < kr) = false := decide_eq_false (by omega)
  have dr3 : decide (kr > 36) = false := decide_eq_false (by omega)
  have HZ := Lib.hid (And.intro hz hco)
  have HM := Lib.hid hm
  have HNX := Lib.hid (bits_le hsa hna hx)
  have HA := Lib.hid (And.intro hAa hna)
  have HSZ := Lib.hid hsz
  have HSA := Lib.hid (fun w1 (hb : Below w.heap.size w w1) => hsa.below hb (Nat.le_refl _))
  have HLA := Lib.hid (And.intro hsa.len hsa.dig)
  have he0 := (Ev.var (Ev.nil w) 24 (.bool na) (.slice Aa n_a ca))
  try simp only [World.size_alloc] at he0
  have HE0 : Hid (Ev w (w.alloc (.cells #[.bool na, .slice Aa n_a ca] 24)) [.var 24 w.heap.size (.bool na) (.slice Aa n_a ca)]) := Lib.hid he0
  clear he0
  clear hsa hAa hna hx hz hco hsz hT hl hm
  go_enter Try.func4, Try.ntmps4
  go_upto_region 1 with fail
  generalize (w.alloc (.cells #[.bool na, .slice Aa n_a ca] 24)) = w1 at *
  go_wp2_with fail
  refine (awake_any _).mono ?_
  rintro ex w1' ⟨rfl, hb1⟩
  have HE1 : Hid (Ev w w1' [.var 24 w.heap.size (.bool na) (.slice Aa n_a ca)]) := Lib.hid (HE0.out.below hb1)
  clear hb1 
  go_upto_region 2 with fail
  go_wp2_with fail
  refine (Parse_w HSZ.out HZ.out.1 HZ.out.2 _).mono ?_
  rintro ex w2' ⟨neg2, A2, n2, c2, l2, rfl, ho2, hg2, hb2⟩
  have HG2 := Lib.hid hg2
  clear hg2
  have HE2 : Hid (Ev w (w2'.alloc (.cells #[.bool neg2, .slice A2 n2 c2] 24)) [.var 24 w2'.heap.size (.bool neg2) (.slice A2 n2 c2), .own 48 A2 n2 c2 (u32s l2), .var 24 w.heap.size (.bool na) (.slice Aa n_a ca)]) := Lib.hid (Ev.var (Ev.own HE1.out hb2 ho2) 24 (.bool neg2) (.slice A2 n2 c2))
  clear hb2 ho2 
  go_upto_region 3 with fail
  generalize (w2'.alloc (.cells #[.bool neg2, .slice A2 n2 c2] 24)) = w2 at *
  generalize w2'.heap.size = g2 at *
  go_wp2_with fail
  refine (rParse_w1 HSZ.out HZ.out.2 HM.out _).mono ?_
  rintro ex w3' ⟨rfl, hb3⟩
  have HE3 : Hid (Ev w (w3'.alloc (.cells #[.bool false, .slice none 0 0] 28)) [.var 28 w3'.heap.size (.bool false) (.slice none 0 0), .var 24 g2 (.bool neg2) (.slice A2 n2 c2), .own 48 A2 n2 c2 (u32s l2), .var 24 w.heap.size (.bool na) (.slice Aa n_a ca)]) := Lib.hid (Ev.var (Ev.below HE2.out hb3) 28 (.bool false) (.slice none 0 0))
  clear hb3 
  go_upto_region 4 with fail
  generalize (w3'.alloc (.cells #[.bool false, .slice none 0 0] 28)) = w3 at *
  generalize w3'.heap.size = g3 at *
  obtain ⟨rfl, rfl⟩ := HG2.out.2 HM.out
  obtain ⟨x4a, x4b, x4c, x4d⟩ := HE3.out.cells (.tail _ (.head _))
  obtain ⟨x5a, x5b, x5c, x5d⟩ := HE3.out.cells (.head _)
  go_wp2_with fail
  refine (is_bad false _ none _ 0 0 co co _ (Option.map Addr.block A2) HM.out (.inl rfl)).mono ?_
  rintro ex w6' ⟨rfl, hg6⟩
  have HE6 : Hid (Ev w w6' [.var 28 g3 (.bool false) (.slice none 0 0), .var 24 g2 (.bool false) (.slice A2 0 c2), .var 24 w.heap.size (.bool na) (.slice Aa n_a ca)]) := Lib.hid (Ev.spend [.var 28 g3 (.bool false) (.slice none 0 0), .var 24 g2 (.bool false) (.slice A2 0 c2)] (.own 48 A2 0 c2 (u32s l2)) [.var 24 w.heap.size (.bool na) (.slice Aa n_a ca)] HE3.out hg6)
  clear hg6 x4a x4b x4c x4d x5a x5b x5c x5d
  go_upto_region 5 with fail
  obtain ⟨x7a, x7b, x7c, x7d⟩ := HE6.out.cells (.tail _ (.tail _ (.head _)))
  go_wp2_with fail
  refine (Of_w ((HSA.out _ HE6.out.b).mono HE6.out.b.size) HA.out.2 HX.out).mono ?_
  rintro ex w8' ⟨v, rfl, ⟨A8, c8, rfl, ho8⟩, hb8⟩
  have HE8 : Hid (Ev w (w8'.alloc (.cells #[.bool (decide (x < 0)), .slice A8 ((digs 2 x.natAbs).length) c8] 28)) [.var 28 w8'.heap.size (.bool (decide (x < 0))) (.slice A8 ((digs 2 x.natAbs).length) c8), .own 3 A8 ((digs 2 x.natAbs).length) c8 (i64s (digs 2 x.natAbs)), .var 28 g3 (.bool false) (.slice none 0 0), .var 24 g2 (.bool false) (.slice A2 0 c2), .var 24 w.heap.size (.bool na) (.slice Aa n_a ca)]) := Lib.hid (Ev.var (Ev.own HE6.out hb8 ho8) 28 (.bool (decide (x < 0))) (.slice A8 ((digs 2 x.natAbs).length) c8))
  clear hb8 ho8 x7a x7b x7c x7d
  go_upto_region 6 with fail
  generalize (w8'.alloc (.cells #[.bool (decide (x < 0)), .slice A8 ((digs 2 x.natAbs).length) c8] 28)) = w8 at *
  generalize w8'.heap.size = g8 at *
  obtain ⟨x9a, x9b, x9c, x9d⟩ := HE8.out.cells (.tail _ (.tail _ (.tail _ (.tail _ (.head _)))))
  go_wp2_with fail
  refine (lent_any na ((HSA.out _ HE8.out.b).mono HE8.out.b.size) HA.out.1 (Nat.le_trans HA.out.2 (by decide)) (Nat.le_refl _)).mono ?_
  rintro ex w10' ⟨gl10, c10, rfl, ho10, hb10⟩
  have HE10 : Hid (Ev w (w10'.alloc (.cells #[.bool na, .slice (some ⟨gl10, 0, none⟩) n_a c10] 24)) [.var 24 w10'.heap.size (.bool na) (.slice (some ⟨gl10, 0, none⟩) n_a c10), .own 48 (some ⟨gl10, 0, none⟩) (n_a + 3) c10 (u32s (la ++ [77, 77, 77])), .var 28 g8 (.bool (decide (x < 0))) (.slice A8 ((digs 2 x.natAbs).length) c8), .own 3 A8 ((digs 2 x.natAbs).length) c8 (i64s (digs 2 x.natAbs)), .var 28 g3 (.bool false) (.slice none 0 0), .var 24 g2 (.bool false) (.slice A2 0 c2), .var 24 w.heap.size (.bool na) (.slice Aa n_a ca)]) := Lib.hid (Ev.var (Ev.own HE8.out hb10 ho10) 24 (.bool na) (.slice (some ⟨gl10, 0, none⟩) n_a c10))
  clear hb10 ho10 x9a x9b x9c x9d
  go_upto_region 7 with fail
  generalize (w10'.alloc (.cells #[.bool na, .slice (some ⟨gl10, 0, none⟩) n_a c10] 24)) = w10 at *
  generalize w10'.heap.size = g10 at *
  obtain ⟨x11a, x11b, x11c, x11d⟩ := HE10.out.cells (.head _)
  go_wp2_with fail
  refine (Text_t (lent_sl (HE10.out.has (.tail _ (.head _))) HLA.out.1 HLA.out.2) HA.out.2 HX.out HT.out HTC.out).mono ?_
  rintro ex w12' ⟨rfl, hb12⟩
  have HE12 : Hid (Ev w w12' [.var 24 g10 (.bool na) (.slice (some ⟨gl10, 0, none⟩) n_a c10), .own 48 (some ⟨gl10, 0, none⟩) (n_a + 3) c10 (u32s (la ++ [77, 77, 77])), .var 28 g8 (.bool (decide (x < 0))) (.slice A8 ((digs 2 x.natAbs).length) c8), .own 3 A8 ((digs 2 x.natAbs).length) c8 (i64s (digs 2 x.natAbs)), .var 28 g3 (.bool false) (.slice none 0 0), .var 24 g2 (.bool false) (.slice A2 0 c2), .var 24 w.heap.size (.bool na) (.slice Aa n_a ca)]) := Lib.hid (HE10.out.below hb12)
  clear hb12 x11a x11b x11c x11d
  go_upto_region 8 with fail
  obtain ⟨x13a, x13b, x13c, x13d⟩ := HE12.out.cells (.head _)
  obtain ⟨x14a, x14b, x14c, x14d⟩ := HE12.out.cells (.tail _ (.tail _ (.tail _ (.tail _ (.tail _ (.tail _ (.head _)))))))
  go_wp2_with fail
  refine (held_any na (HSA.out _ HE12.out.b) ((HE12.out.2.1 _ (.tail _ (.head _))).2 _ rfl).1 ((HE12.out.2.1 _ (.tail _ (.head _))).2 _ rfl).2 (HE12.out.has (.tail _ (.head _)))).mono ?_
  rintro ex w15' ⟨rfl, hg15⟩
  have HE15 : Hid (Ev w w15' [.var 24 g10 (.bool na) (.slice (some ⟨gl10, 0, none⟩) n_a c10), .var 28 g8 (.bool (decide (x < 0))) (.slice A8 ((digs 2 x.natAbs).length) c8), .own 3 A8 ((digs 2 x.natAbs).length) c8 (i64s (digs 2 x.natAbs)), .var 28 g3 (.bool false) (.slice none 0 0), .var 24 g2 (.bool false) (.slice A2 0 c2), .var 24 w.heap.size (.bool na) (.slice Aa n_a ca)]) := Lib.hid (Ev.spend [.var 24 g10 (.bool na) (.slice (some ⟨gl10, 0, none⟩) n_a c10)] (.own 48 (some ⟨gl10, 0, none⟩) (n_a + 3) c10 (u32s (la ++ [77, 77, 77]))) [.var 28 g8 (.bool (decide (x < 0))) (.slice A8 ((digs 2 x.natAbs).length) c8), .own 3 A8 ((digs 2 x.natAbs).length) c8 (i64s (digs 2 x.natAbs)), .var 28 g3 (.bool false) (.slice none 0 0), .var 24 g2 (.bool false) (.slice A2 0 c2), .var 24 w.heap.size (.bool na) (.slice Aa n_a ca)] HE12.out hg15)
  clear hg15 x13a x13b x13c x13d x14a x14b x14c x14d
  go_upto_region 9 with fail
  obtain ⟨x16a, x16b, x16c, x16d⟩ := HE15.out.cells (.tail _ (.head _))
  go_wp2_with fail
  refine (Long_b HL.out _ _ _ _).mono ?_
  rintro ex w17' ⟨rfl, hb17⟩
  have HE17 : Hid (Ev w w17' [.var 24 g10 (.bool na) (.slice (some ⟨gl10, 0, none⟩) n_a c10), .var 28 g8 (.bool (decide (x < 0))) (.slice A8 ((digs 2 x.natAbs).length) c8), .own 3 A8 ((digs 2 x.natAbs).length) c8 (i64s (digs 2 x.natAbs)), .var 28 g3 (.bool false) (.slice none 0 0), .var 24 g2 (.bool false) (.slice A2 0 c2), .var 24 w.heap.size (.bool na) (.slice Aa n_a ca)]) := Lib.hid (HE15.out.below hb17)
  clear hb17 x16a x16b x16c x16d
  obtain ⟨x18a, x18b, x18c, x18d⟩ := HE17.out.cells (.tail _ (.head _))
  go_wp2_with fail
  refine (rText_t (bits_sl (HE17.out.has (.tail _ (.tail _ (.head _))))) HL.out HR.out HT.out).mono ?_
  rintro ex w19' ⟨rfl, hb19⟩
  have HE19 : Hid (Ev w w19' [.var 24 g10 (.bool na) (.slice (some ⟨gl10, 0, none⟩) n_a c10), .var 28 g8 (.bool (decide (x < 0))) (.slice A8 ((digs 2 x.natAbs).length) c8), .own 3 A8 ((digs 2 x.natAbs).length) c8 (i64s (digs 2 x.natAbs)), .var 28 g3 (.bool false) (.slice none 0 0), .var 24 g2 (.bool false) (.slice A2 0 c2), .var 24 w.heap.size (.bool na) (.slice Aa n_a ca)]) := Lib.hid (HE17.out.below hb19)
  clear hb19 x18a x18b x18c x18d
  go_wp2
  go_ret
  exact ⟨by first | rfl | simp, HE19.out.b⟩
theorem Texts_walk (s : ByteArray) (hsz : s.size ≤ 1048576) (na : Bool) {Aa : Option Addr} {la : List Nat} {n_a ca : Nat} {w : World} (hsa : SlU w w.heap.size Aa n_a ca la) (hAa : Aa = none → ca = 0) (kr : Int) (hkr : -9223372036854775808 ≤ kr ∧ kr ≤ 9223372036854775807) (hna : n_a ≤ 1048576) :
    Calls Try.prog 4 #[.string s, .agg #[.bool na, .slice Aa n_a ca], .int .i64 kr] w fun e w' => e = .returned (.bool true) ∧ Below w.heap.size w w' := by
  by_cases hc : pCode s.data.toList kr = 0
  · cases hl : tooLong (ival na la)
    · by_cases hr : kr < 2 ∨ 36 < kr
      · exact Texts_ok_radix s kr hkr hsz na hsa hAa hna rfl rfl rfl hc hl hr
      · exact Texts_ok_ok s kr hkr hsz na hsa hAa hna rfl rfl rfl hc hl (by omega)
    · exact Texts_ok_long s kr hkr hsz na hsa hAa hna rfl rfl rfl hc hl
  · cases hl : tooLong (ival na la)
    · by_cases hr : kr < 2 ∨ 36 < kr
      · exact Texts_bad_radix s kr hkr hsz na hsa hAa hna rfl rfl rfl hc hl hr
      · exact Texts_bad_ok s kr hkr hsz na hsa hAa hna rfl rfl rfl hc hl (by omega)
    · exact Texts_bad_long s kr hkr hsz na hsa hAa hna rfl rfl rfl hc hl
end Go.Proofs.Ytggdmhkdmkldoaa
