import Derived.Test.YtggdmhkdmkldoaaWx
namespace Go.Proofs.Ytggdmhkdmkldoaa
open Go.RowKit Hb
set_option linter.unusedVariables false
set_option linter.unusedSimpArgs false

theorem ev_apart {w0 w : World} {ts : List Th} {t tb : TypeId} {A : Option Addr} {n c g b o : Nat} {xs : List Value} {x y : Value} (h : Ev w0 w ts) (h1 : Th.own t A n c xs ∈ ts) (h2 : Th.var tb g x y ∈ ts) (e : A = some ⟨b, o, none⟩) : b ≠ g := by
  subst e
  rintro rfl
  have hp := h.2.2
  have key : ∀ ts : List Th, ts.Pairwise (fun s t => ∀ b, s.blk = some b → t.blk ≠ some b) → Th.own t (some ⟨b, o, none⟩) n c xs ∈ ts → Th.var tb b x y ∈ ts → False := by
    intro ts
    induction ts with
    | nil => intro _ h1; cases h1
    | cons s ts ih =>
      intro hp h1 h2
      have hq := List.pairwise_cons.1 hp
      rcases List.mem_cons.1 h1 with e1 | h1
      · rcases List.mem_cons.1 h2 with e2 | h2
        · rw [← e1] at e2; cases e2
        · have h3 := hq.1 _ h2 b
          rw [← e1] at h3
          exact h3 rfl rfl
      · rcases List.mem_cons.1 h2 with e2 | h2
        · have h3 := hq.1 _ h1 b
          rw [← e2] at h3
          exact h3 rfl rfl
        · exact ih hq.2 h1 h2
  exact key ts hp h1 h2
theorem SlI.far' {w : World} {B n c : Nat} {A : Option Addr} {l : List Nat} (h : SlI w B A n c l) {p : Addr} (hp : l ≠ [] → ∀ b o, A = some ⟨b, o, none⟩ → b ≠ p.block) (u : Value) : SlI (w.setCell p u) B A n c l :=
  ⟨h.len, h.cap, h.max, h.dig, fun hx => by
    obtain ⟨b, o, hA, hlt, hc⟩ := h.rd hx
    refine ⟨b, o, hA, hlt, fun i v hi => ?_⟩
    rw [← hc i v hi]
    exact World.cell?_of_block (Below.heap_setCell w p u b (hp (fun e => hx (by rw [e]; rfl)) b o hA))⟩
theorem sl_set2 {w : World} {n c g : Nat} {A : Option Addr} {l : List Nat} (h : SlI w w.heap.size A n c l) (hp : l ≠ [] → ∀ b o, A = some ⟨b, o, none⟩ → b ≠ g) (u v : Value) : SlI ((w.setCell ⟨g, 0, none⟩ u).setCell ⟨g, 1, none⟩ v) ((w.setCell ⟨g, 0, none⟩ u).setCell ⟨g, 1, none⟩ v).heap.size A n c l := by
  have h2 := SlI.far' (SlI.far' h (p := ⟨g, 0, none⟩) hp u) (p := ⟨g, 1, none⟩) hp v
  simpa [World.setCell] using h2
set_option maxRecDepth 100000 in
set_option maxHeartbeats 16000000 in
theorem Powers_xl_t1 (na nb : Bool) (kn : Int) (hkn : -9223372036854775808 ≤ kn ∧ kn ≤ 9223372036854775807) {Aa Ab : Option Addr} {la lb : List Nat} {n_a ca n_b cb : Nat} {w : World} {x y : Int} (hx : ival na la = x) (hy : ival nb lb = y) (hsa : SlU w w.heap.size Aa n_a ca la) (hsb : SlU w w.heap.size Ab n_b cb lb) (hna : n_a ≤ 1048576) (hnb : n_b ≤ 1048576) (hlx : tooLong x = true) :
    Calls Try.prog 10 #[.agg #[.bool na, .slice Aa n_a ca], .agg #[.bool nb, .slice Ab n_b cb], .int .i64 kn] w fun e w' => e = .returned (.bool true) ∧ Below w.heap.size w w' := by
  have HX := Lib.hid hx
  have HY := Lib.hid hy
  have HKN := Lib.hid hkn
  obtain ⟨g, hg⟩ : ∃ g, Nat.gcd x.natAbs y.natAbs = g := ⟨_, rfl⟩
  have HGC := Lib.hid hg
  obtain ⟨pz, hpz⟩ : ∃ z, x ^ kn.toNat = z := ⟨_, rfl⟩
  obtain ⟨pc, hpc⟩ : ∃ c, pwCode (tooLong x) x kn = c := ⟨_, rfl⟩
  have HP := Lib.hid (And.intro hpz hpc)
  obtain ⟨sz, hsz⟩ : ∃ z, shZ x kn = z := ⟨_, rfl⟩
  have HSZ := Lib.hid hsz
  have HE := Lib.hid (show err (tooLong x || tooLong y) = 10 by rw [hlx]; rfl)
  have HAL := Lib.hid (show err (tooLong x || tooLong x) = 10 by rw [hlx]; rfl)
  have HA1 := Lib.hid (show err (tooLong x) = 10 by rw [hlx]; rfl)
  have HSC := Lib.hid (show err (tooLong x || tooLong sz) = 10 by rw [hlx]; rfl)
  have HNX := Lib.hid (bits_le hsa hna hx)
  have HNY := Lib.hid (bits_le hsb hnb hy)
  have HA := Lib.hid (And.intro hna hna)
  have HB := Lib.hid (And.intro hnb hnb)
  have HSA := Lib.hid (fun w1 (hb : Below w.heap.size w w1) => hsa.below hb (Nat.le_refl _))
  have HSB := Lib.hid (fun w1 (hb : Below w.heap.size w w1) => hsb.below hb (Nat.le_refl _))
  have he0 := (Ev.var (Ev.var (Ev.nil w) 24 (.bool na) (.slice Aa n_a ca)) 24 (.bool nb) (.slice Ab n_b cb))
  try simp only [World.size_alloc] at he0
  have HE0 : Hid (Ev w ((w.alloc (.cells #[.bool na, .slice Aa n_a ca] 24)).alloc (.cells #[.bool nb, .slice Ab n_b cb] 24)) [.var 24 (w.heap.size + 1) (.bool nb) (.slice Ab n_b cb), .var 24 w.heap.size (.bool na) (.slice Aa n_a ca)]) := Lib.hid he0
  clear he0
  clear hsa hsb hna hnb hx hy hg hpz hpc hsz hlx hkn
  go_enter Try.func10, Try.ntmps10
  go_upto_region 1 with fail
  generalize ((w.alloc (.cells #[.bool na, .slice Aa n_a ca] 24)).alloc (.cells #[.bool nb, .slice Ab n_b cb] 24)) = w1 at *
  go_wp2_with fail
  refine (awake_any _).mono ?_
  rintro ex w1' ⟨rfl, hb1⟩
  have HE1 : Hid (Ev w w1' [.var 24 (w.heap.size + 1) (.bool nb) (.slice Ab n_b cb), .var 24 w.heap.size (.bool na) (.slice Aa n_a ca)]) := Lib.hid (HE0.out.below hb1)
  clear hb1 
  go_upto_region 2 with fail
  obtain ⟨x2a, x2b, x2c, x2d⟩ := HE1.out.cells (.tail _ (.head _))
  go_wp2_with fail
  refine (Of_w ((HSA.out _ HE1.out.b).mono HE1.out.b.size) HA.out.2 HX.out).mono ?_
  rintro ex w3' ⟨v, rfl, ⟨A3, c3, rfl, ho3⟩, hb3⟩
  have HE3 : Hid (Ev w (w3'.alloc (.cells #[.bool (decide (x < 0)), .slice A3 ((digs 2 x.natAbs).length) c3] 28)) [.var 28 w3'.heap.size (.bool (decide (x < 0))) (.slice A3 ((digs 2 x.natAbs).length) c3), .own 3 A3 ((digs 2 x.natAbs).length) c3 (i64s (digs 2 x.natAbs)), .var 24 (w.heap.size + 1) (.bool nb) (.slice Ab n_b cb), .var 24 w.heap.size (.bool na) (.slice Aa n_a ca)]) := Lib.hid (Ev.var (Ev.own HE1.out hb3 ho3) 28 (.bool (decide (x < 0))) (.slice A3 ((digs 2 x.natAbs).length) c3))
  clear hb3 ho3 x2a x2b x2c x2d
  go_upto_region 3 with fail
  generalize (w3'.alloc (.cells #[.bool (decide (x < 0)), .slice A3 ((digs 2 x.natAbs).length) c3] 28)) = w3 at *
  generalize w3'.heap.size = g3 at *
  obtain ⟨x4a, x4b, x4c, x4d⟩ := HE3.out.cells (.tail _ (.tail _ (.head _)))
  go_wp2_with fail
  refine (Of_w ((HSB.out _ HE3.out.b).mono HE3.out.b.size) HB.out.2 HY.out).mono ?_
  rintro ex w5' ⟨v, rfl, ⟨A5, c5, rfl, ho5⟩, hb5⟩
  have HE5 : Hid (Ev w (w5'.alloc (.cells #[.bool (decide (y < 0)), .slice A5 ((digs 2 y.natAbs).length) c5] 28)) [.var 28 w5'.heap.size (.bool (decide (y < 0))) (.slice A5 ((digs 2 y.natAbs).length) c5), .own 3 A5 ((digs 2 y.natAbs).length) c5 (i64s (digs 2 y.natAbs)), .var 28 g3 (.bool (decide (x < 0))) (.slice A3 ((digs 2 x.natAbs).length) c3), .own 3 A3 ((digs 2 x.natAbs).length) c3 (i64s (digs 2 x.natAbs)), .var 24 (w.heap.size + 1) (.bool nb) (.slice Ab n_b cb), .var 24 w.heap.size (.bool na) (.slice Aa n_a ca)]) := Lib.hid (Ev.var (Ev.own HE3.out hb5 ho5) 28 (.bool (decide (y < 0))) (.slice A5 ((digs 2 y.natAbs).length) c5))
  clear hb5 ho5 x4a x4b x4c x4d
  go_upto_region 4 with fail
  generalize (w5'.alloc (.cells #[.bool (decide (y < 0)), .slice A5 ((digs 2 y.natAbs).length) c5] 28)) = w5 at *
  generalize w5'.heap.size = g5 at *
  obtain ⟨x6a, x6b, x6c, x6d⟩ := HE5.out.cells (.tail _ (.tail _ (.head _)))
  obtain ⟨x7a, x7b, x7c, x7d⟩ := HE5.out.cells (.head _)
  go_wp2_with fail
  refine (long_we (x := x) (y := y) HE.out _ _ _ _ _ _ _).mono ?_
  rintro ex w8' ⟨rfl, hb8⟩
  have HE8 : Hid (Ev w w8' [.var 28 g5 (.bool (decide (y < 0))) (.slice A5 ((digs 2 y.natAbs).length) c5), .own 3 A5 ((digs 2 y.natAbs).length) c5 (i64s (digs 2 y.natAbs)), .var 28 g3 (.bool (decide (x < 0))) (.slice A3 ((digs 2 x.natAbs).length) c3), .own 3 A3 ((digs 2 x.natAbs).length) c3 (i64s (digs 2 x.natAbs)), .var 24 (w.heap.size + 1) (.bool nb) (.slice Ab n_b cb), .var 24 w.heap.size (.bool na) (.slice Aa n_a ca)]) := Lib.hid (HE5.out.below hb8)
  clear hb8 x6a x6b x6c x6d x7a x7b x7c x7d
  go_upto_region 5 with fail
  obtain ⟨x9a, x9b, x9c, x9d⟩ := HE8.out.cells (.tail _ (.tail _ (.head _)))
  go_wp2_with fail
  refine (long_we (x := x) (y := x) HAL.out _ _ _ _ _ _ _).mono ?_
  rintro ex w10' ⟨rfl, hb10⟩
  have HE10 : Hid (Ev w w10' [.var 28 g5 (.bool (decide (y < 0))) (.slice A5 ((digs 2 y.natAbs).length) c5), .own 3 A5 ((digs 2 y.natAbs).length) c5 (i64s (digs 2 y.natAbs)), .var 28 g3 (.bool (decide (x < 0))) (.slice A3 ((digs 2 x.natAbs).length) c3), .own 3 A3 ((digs 2 x.natAbs).length) c3 (i64s (digs 2 x.natAbs)), .var 24 (w.heap.size + 1) (.bool nb) (.slice Ab n_b cb), .var 24 w.heap.size (.bool na) (.slice Aa n_a ca)]) := Lib.hid (HE8.out.below hb10)
  clear hb10 x9a x9b x9c x9d
  go_upto_region 6 with fail
  obtain ⟨x11a, x11b, x11c, x11d⟩ := HE10.out.cells (.tail _ (.tail _ (.tail _ (.tail _ (.tail _ (.head _))))))
  obtain ⟨x12a, x12b, x12c, x12d⟩ := HE10.out.cells (.tail _ (.tail _ (.tail _ (.tail _ (.head _)))))
  go_wp2_with fail
  refine (Gcd_w HE.out ((HSA.out _ HE10.out.b).mono HE10.out.b.size) ((HSB.out _ HE10.out.b).mono HE10.out.b.size) HA.out.2 HB.out.2 HX.out HY.out HGC.out).mono ?_
  rintro ex w13' ⟨neg13, A13, n13, c13, l13, rfl, ho13, hg13, hb13⟩
  have HG13 := Lib.hid hg13
  clear hg13
  have HE13 : Hid (Ev w (w13'.alloc (.cells #[.bool neg13, .slice A13 n13 c13] 24)) [.var 24 w13'.heap.size (.bool neg13) (.slice A13 n13 c13), .own 48 A13 n13 c13 (u32s l13), .var 28 g5 (.bool (decide (y < 0))) (.slice A5 ((digs 2 y.natAbs).length) c5), .own 3 A5 ((digs 2 y.natAbs).length) c5 (i64s (digs 2 y.natAbs)), .var 28 g3 (.bool (decide (x < 0))) (.slice A3 ((digs 2 x.natAbs).length) c3), .own 3 A3 ((digs 2 x.natAbs).length) c3 (i64s (digs 2 x.natAbs)), .var 24 (w.heap.size + 1) (.bool nb) (.slice Ab n_b cb), .var 24 w.heap.size (.bool na) (.slice Aa n_a ca)]) := Lib.hid (Ev.var (Ev.own HE10.out hb13 ho13) 24 (.bool neg13) (.slice A13 n13 c13))
  clear hb13 ho13 x11a x11b x11c x11d x12a x12b x12c x12d
  go_upto_region 7 with fail
  generalize (w13'.alloc (.cells #[.bool neg13, .slice A13 n13 c13] 24)) = w13 at *
  generalize w13'.heap.size = g13 at *
  obtain ⟨x14a, x14b, x14c, x14d⟩ := HE13.out.cells (.tail _ (.tail _ (.tail _ (.tail _ (.tail _ (.tail _ (.tail _ (.head _))))))))
  go_wp2_with fail
  refine (Pow_w (kn := kn) ((HSA.out _ HE13.out.b).mono HE13.out.b.size) HA.out.2 HX.out HP.out.1 HP.out.2).mono ?_
  rintro ex w15' ⟨neg15, A15, n15, c15, l15, rfl, ho15, hg15, hb15⟩
  have HG15 := Lib.hid hg15
  clear hg15
  have HE15 : Hid (Ev w (w15'.alloc (.cells #[.bool neg15, .slice A15 n15 c15] 24)) [.var 24 w15'.heap.size (.bool neg15) (.slice A15 n15 c15), .own 48 A15 n15 c15 (u32s l15), .var 24 g13 (.bool neg13) (.slice A13 n13 c13), .own 48 A13 n13 c13 (u32s l13), .var 28 g5 (.bool (decide (y < 0))) (.slice A5 ((digs 2 y.natAbs).length) c5), .own 3 A5 ((digs 2 y.natAbs).length) c5 (i64s (digs 2 y.natAbs)), .var 28 g3 (.bool (decide (x < 0))) (.slice A3 ((digs 2 x.natAbs).length) c3), .own 3 A3 ((digs 2 x.natAbs).length) c3 (i64s (digs 2 x.natAbs)), .var 24 (w.heap.size + 1) (.bool nb) (.slice Ab n_b cb), .var 24 w.heap.size (.bool na) (.slice Aa n_a ca)]) := Lib.hid (Ev.var (Ev.own HE13.out hb15 ho15) 24 (.bool neg15) (.slice A15 n15 c15))
  clear hb15 ho15 x14a x14b x14c x14d
  go_upto_region 8 with fail
  generalize (w15'.alloc (.cells #[.bool neg15, .slice A15 n15 c15] 24)) = w15 at *
  generalize w15'.heap.size = g15 at *
  obtain ⟨x16a, x16b, x16c, x16d⟩ := HE15.out.cells (.tail _ (.tail _ (.tail _ (.tail _ (.tail _ (.tail _ (.tail _ (.tail _ (.tail _ (.head _))))))))))
  go_wp2_with fail
  refine (Shift_w HKN.out.1 ((HSA.out _ HE15.out.b).mono HE15.out.b.size) HA.out.2 HX.out HSZ.out HSC.out).mono ?_
  rintro ex w17' ⟨neg17, A17, n17, c17, l17, rfl, ho17, hg17, hb17⟩
  have HG17 := Lib.hid hg17
  clear hg17
  have HE17 : Hid (Ev w (w17'.alloc (.cells #[.bool neg17, .slice A17 n17 c17] 24)) [.var 24 w17'.heap.size (.bool neg17) (.slice A17 n17 c17), .own 48 A17 n17 c17 (u32s l17), .var 24 g15 (.bool neg15) (.slice A15 n15 c15), .own 48 A15 n15 c15 (u32s l15), .var 24 g13 (.bool neg13) (.slice A13 n13 c13), .own 48 A13 n13 c13 (u32s l13), .var 28 g5 (.bool (decide (y < 0))) (.slice A5 ((digs 2 y.natAbs).length) c5), .own 3 A5 ((digs 2 y.natAbs).length) c5 (i64s (digs 2 y.natAbs)), .var 28 g3 (.bool (decide (x < 0))) (.slice A3 ((digs 2 x.natAbs).length) c3), .own 3 A3 ((digs 2 x.natAbs).length) c3 (i64s (digs 2 x.natAbs)), .var 24 (w.heap.size + 1) (.bool nb) (.slice Ab n_b cb), .var 24 w.heap.size (.bool na) (.slice Aa n_a ca)]) := Lib.hid (Ev.var (Ev.own HE15.out hb17 ho17) 24 (.bool neg17) (.slice A17 n17 c17))
  clear hb17 ho17 x16a x16b x16c x16d
  go_upto_region 9 with fail
  generalize (w17'.alloc (.cells #[.bool neg17, .slice A17 n17 c17] 24)) = w17 at *
  generalize w17'.heap.size = g17 at *
  go_upto_region 12 with fail
  obtain ⟨x18a, x18b, x18c, x18d⟩ := HE17.out.cells (.tail _ (.tail _ (.tail _ (.tail _ (.head _)))))
  obtain ⟨x19a, x19b, x19c, x19d⟩ := HE17.out.cells (.tail _ (.tail _ (.tail _ (.tail _ (.tail _ (.tail _ (.tail _ (.tail _ (.head _)))))))))
  go_wp2_with fail
  refine (is_b _ _ _ _ (Option.map Addr.block A13) HG13.out (by decide) rfl).mono ?_
  rintro ex w20' ⟨rfl, hg20⟩
  have HE20 : Hid (Ev w w20' [.var 24 g17 (.bool neg17) (.slice A17 n17 c17), .own 48 A17 n17 c17 (u32s l17), .var 24 g15 (.bool neg15) (.slice A15 n15 c15), .own 48 A15 n15 c15 (u32s l15), .var 24 g13 (.bool neg13) (.slice A13 n13 c13), .var 28 g5 (.bool (decide (y < 0))) (.slice A5 ((digs 2 y.natAbs).length) c5), .own 3 A5 ((digs 2 y.natAbs).length) c5 (i64s (digs 2 y.natAbs)), .var 28 g3 (.bool (decide (x < 0))) (.slice A3 ((digs 2 x.natAbs).length) c3), .own 3 A3 ((digs 2 x.natAbs).length) c3 (i64s (digs 2 x.natAbs)), .var 24 (w.heap.size + 1) (.bool nb) (.slice Ab n_b cb), .var 24 w.heap.size (.bool na) (.slice Aa n_a ca)]) := Lib.hid (Ev.spend [.var 24 g17 (.bool neg17) (.slice A17 n17 c17), .own 48 A17 n17 c17 (u32s l17), .var 24 g15 (.bool neg15) (.slice A15 n15 c15), .own 48 A15 n15 c15 (u32s l15), .var 24 g13 (.bool neg13) (.slice A13 n13 c13)] (.own 48 A13 n13 c13 (u32s l13)) [.var 28 g5 (.bool (decide (y < 0))) (.slice A5 ((digs 2 y.natAbs).length) c5), .own 3 A5 ((digs 2 y.natAbs).length) c5 (i64s (digs 2 y.natAbs)), .var 28 g3 (.bool (decide (x < 0))) (.slice A3 ((digs 2 x.natAbs).length) c3), .own 3 A3 ((digs 2 x.natAbs).length) c3 (i64s (digs 2 x.natAbs)), .var 24 (w.heap.size + 1) (.bool nb) (.slice Ab n_b cb), .var 24 w.heap.size (.bool na) (.slice Aa n_a ca)] HE17.out hg20)
  clear hg20 x18a x18b x18c x18d x19a x19b x19c x19d
  go_upto_region 13 with fail
  obtain ⟨x21a, x21b, x21c, x21d⟩ := HE20.out.cells (.tail _ (.tail _ (.tail _ (.tail _ (.tail _ (.tail _ (.tail _ (.head _))))))))
  obtain ⟨x22a, x22b, x22c, x22d⟩ := HE20.out.cells (.tail _ (.tail _ (.head _)))
  go_wp2_with fail
  refine (powered_any HKN.out.2 (bits_sl (HE20.out.has (.tail _ (.tail _ (.tail _ (.tail _ (.tail _ (.tail _ (.tail _ (.tail _ (.head _))))))))))) (HE20.out.has (.tail _ (.tail _ (.tail _ (.head _))))) HE20.out.b.size HG15.out HP.out.1 HP.out.2 HA1.out).mono ?_
  rintro ex w23' ⟨rfl, hg23⟩
  have HE23 : Hid (Ev w w23' [.var 24 g17 (.bool neg17) (.slice A17 n17 c17), .own 48 A17 n17 c17 (u32s l17), .var 24 g15 (.bool neg15) (.slice A15 n15 c15), .var 24 g13 (.bool neg13) (.slice A13 n13 c13), .var 28 g5 (.bool (decide (y < 0))) (.slice A5 ((digs 2 y.natAbs).length) c5), .own 3 A5 ((digs 2 y.natAbs).length) c5 (i64s (digs 2 y.natAbs)), .var 28 g3 (.bool (decide (x < 0))) (.slice A3 ((digs 2 x.natAbs).length) c3), .own 3 A3 ((digs 2 x.natAbs).length) c3 (i64s (digs 2 x.natAbs)), .var 24 (w.heap.size + 1) (.bool nb) (.slice Ab n_b cb), .var 24 w.heap.size (.bool na) (.slice Aa n_a ca)]) := Lib.hid (Ev.spend [.var 24 g17 (.bool neg17) (.slice A17 n17 c17), .own 48 A17 n17 c17 (u32s l17), .var 24 g15 (.bool neg15) (.slice A15 n15 c15)] (.own 48 A15 n15 c15 (u32s l15)) [.var 24 g13 (.bool neg13) (.slice A13 n13 c13), .var 28 g5 (.bool (decide (y < 0))) (.slice A5 ((digs 2 y.natAbs).length) c5), .own 3 A5 ((digs 2 y.natAbs).length) c5 (i64s (digs 2 y.natAbs)), .var 28 g3 (.bool (decide (x < 0))) (.slice A3 ((digs 2 x.natAbs).length) c3), .own 3 A3 ((digs 2 x.natAbs).length) c3 (i64s (digs 2 x.natAbs)), .var 24 (w.heap.size + 1) (.bool nb) (.slice Ab n_b cb), .var 24 w.heap.size (.bool na) (.slice Aa n_a ca)] HE20.out hg23)
  clear hg23 x21a x21b x21c x21d x22a x22b x22c x22d
  go_upto_region 14 with fail
  go_upto_region 14 with fail
  have HE24 : Hid (Ev w (w23'.alloc (.cells #[.bool false, .slice none 0 0] 28)) [.var 28 w23'.heap.size (.bool false) (.slice none 0 0), .var 24 g17 (.bool neg17) (.slice A17 n17 c17), .own 48 A17 n17 c17 (u32s l17), .var 24 g15 (.bool neg15) (.slice A15 n15 c15), .var 24 g13 (.bool neg13) (.slice A13 n13 c13), .var 28 g5 (.bool (decide (y < 0))) (.slice A5 ((digs 2 y.natAbs).length) c5), .own 3 A5 ((digs 2 y.natAbs).length) c5 (i64s (digs 2 y.natAbs)), .var 28 g3 (.bool (decide (x < 0))) (.slice A3 ((digs 2 x.natAbs).length) c3), .own 3 A3 ((digs 2 x.natAbs).length) c3 (i64s (digs 2 x.natAbs)), .var 24 (w.heap.size + 1) (.bool nb) (.slice Ab n_b cb), .var 24 w.heap.size (.bool na) (.slice Aa n_a ca)]) := Lib.hid (Ev.var HE23.out 28 (.bool false) (.slice none 0 0))
  go_upto_region 15 with fail
  generalize (w23'.alloc (.cells #[.bool false, .slice none 0 0] 28)) = w24 at *
  generalize w23'.heap.size = g24 at *
  go_upto_region 20 with fail
  obtain ⟨x25a, x25b, x25c, x25d⟩ := HE24.out.cells (.tail _ (.head _))
  obtain ⟨x26a, x26b, x26c, x26d⟩ := HE24.out.cells (.head _)
  go_wp2_with fail
  refine (is_b _ _ _ _ (Option.map Addr.block A17) HG17.out (by decide) rfl).mono ?_
  rintro ex w27' ⟨rfl, hg27⟩
  have HE27 : Hid (Ev w w27' [.var 28 g24 (.bool false) (.slice none 0 0), .var 24 g17 (.bool neg17) (.slice A17 n17 c17), .var 24 g15 (.bool neg15) (.slice A15 n15 c15), .var 24 g13 (.bool neg13) (.slice A13 n13 c13), .var 28 g5 (.bool (decide (y < 0))) (.slice A5 ((digs 2 y.natAbs).length) c5), .own 3 A5 ((digs 2 y.natAbs).length) c5 (i64s (digs 2 y.natAbs)), .var 28 g3 (.bool (decide (x < 0))) (.slice A3 ((digs 2 x.natAbs).length) c3), .own 3 A3 ((digs 2 x.natAbs).length) c3 (i64s (digs 2 x.natAbs)), .var 24 (w.heap.size + 1) (.bool nb) (.slice Ab n_b cb), .var 24 w.heap.size (.bool na) (.slice Aa n_a ca)]) := Lib.hid (Ev.spend [.var 28 g24 (.bool false) (.slice none 0 0), .var 24 g17 (.bool neg17) (.slice A17 n17 c17)] (.own 48 A17 n17 c17 (u32s l17)) [.var 24 g15 (.bool neg15) (.slice A15 n15 c15), .var 24 g13 (.bool neg13) (.slice A13 n13 c13), .var 28 g5 (.bool (decide (y < 0))) (.slice A5 ((digs 2 y.natAbs).length) c5), .own 3 A5 ((digs 2 y.natAbs).length) c5 (i64s (digs 2 y.natAbs)), .var 28 g3 (.bool (decide (x < 0))) (.slice A3 ((digs 2 x.natAbs).length) c3), .own 3 A3 ((digs 2 x.natAbs).length) c3 (i64s (digs 2 x.natAbs)), .var 24 (w.heap.size + 1) (.bool nb) (.slice Ab n_b cb), .var 24 w.heap.size (.bool na) (.slice Aa n_a ca)] HE24.out hg27)
  clear hg27 x25a x25b x25c x25d x26a x26b x26c x26d
  go_upto_region 21 with fail
  go_wp2
  go_ret
  exact ⟨rfl, HE27.out.b⟩
set_option maxRecDepth 100000 in
set_option maxHeartbeats 16000000 in
theorem Powers_yl_t2 (na nb : Bool) (kn : Int) (hkn : -9223372036854775808 ≤ kn ∧ kn ≤ 9223372036854775807) {Aa Ab : Option Addr} {la lb : List Nat} {n_a ca n_b cb : Nat} {w : World} {x y : Int} (hx : ival na la = x) (hy : ival nb lb = y) (hsa : SlU w w.heap.size Aa n_a ca la) (hsb : SlU w w.heap.size Ab n_b cb lb) (hna : n_a ≤ 1048576) (hnb : n_b ≤ 1048576) (hlx : tooLong x = false) (hly : tooLong y = true) (hx0 : x = 0) :
    Calls Try.prog 10 #[.agg #[.bool na, .slice Aa n_a ca], .agg #[.bool nb, .slice Ab n_b cb], .int .i64 kn] w fun e w' => e = .returned (.bool true) ∧ Below w.heap.size w w' := by
  have HX := Lib.hid hx
  have HY := Lib.hid hy
  have HKN := Lib.hid hkn
  obtain ⟨g, hg⟩ : ∃ g, Nat.gcd x.natAbs y.natAbs = g := ⟨_, rfl⟩
  have HGC := Lib.hid hg
  obtain ⟨pz, hpz⟩ : ∃ z, x ^ kn.toNat = z := ⟨_, rfl⟩
  obtain ⟨pc, hpc⟩ : ∃ c, pwCode (tooLong x) x kn = c := ⟨_, rfl⟩
  have HP := Lib.hid (And.intro hpz hpc)
  obtain ⟨sz, hsz⟩ : ∃ z, shZ x kn = z := ⟨_, rfl⟩
  have HSZ := Lib.hid hsz
  have HE := Lib.hid (show err (tooLong x || tooLong y) = 10 by rw [hlx, hly]; rfl)
  have HAL := Lib.hid (show err (tooLong x || tooLong x) = 0 by rw [hlx]; rfl)
  have HA1 := Lib.hid (show err (tooLong x) = 0 by rw [hlx]; rfl)
  have HS0 := Lib.hid (show sz = 0 by rw [← hsz, hx0, shZ_nought])
  have HSC := Lib.hid (show err (tooLong x || tooLong sz) = 0 by rw [hlx, HS0.out, show tooLong 0 = false by simp [tooLong, blen_zero]]; rfl)
  have hl0 : (((digs 2 x.natAbs).length : Int) == 0) = true := by rw [len_zero.2 hx0]; rfl
  have HNX := Lib.hid (bits_le hsa hna hx)
  have HNY := Lib.hid (bits_le hsb hnb hy)
  have HA := Lib.hid (And.intro hna hna)
  have HB := Lib.hid (And.intro hnb hnb)
  have HSA := Lib.hid (fun w1 (hb : Below w.heap.size w w1) => hsa.below hb (Nat.le_refl _))
  have HSB := Lib.hid (fun w1 (hb : Below w.heap.size w w1) => hsb.below hb (Nat.le_refl _))
  have he0 := (Ev.var (Ev.var (Ev.nil w) 24 (.bool na) (.slice Aa n_a ca)) 24 (.bool nb) (.slice Ab n_b cb))
  try simp only [World.size_alloc] at he0
  have HE0 : Hid (Ev w ((w.alloc (.cells #[.bool na, .slice Aa n_a ca] 24)).alloc (.cells #[.bool nb, .slice Ab n_b cb] 24)) [.var 24 (w.heap.size + 1) (.bool nb) (.slice Ab n_b cb), .var 24 w.heap.size (.bool na) (.slice Aa n_a ca)]) := Lib.hid he0
  clear he0
  clear hsa hsb hna hnb hx hy hg hpz hpc hsz hlx hly hx0 hkn
  go_enter Try.func10, Try.ntmps10
  go_upto_region 1 with fail
  generalize ((w.alloc (.cells #[.bool na, .slice Aa n_a ca] 24)).alloc (.cells #[.bool nb, .slice Ab n_b cb] 24)) = w1 at *
  go_wp2_with fail
  refine (awake_any _).mono ?_
  rintro ex w1' ⟨rfl, hb1⟩
  have HE1 : Hid (Ev w w1' [.var 24 (w.heap.size + 1) (.bool nb) (.slice Ab n_b cb), .var 24 w.heap.size (.bool na) (.slice Aa n_a ca)]) := Lib.hid (HE0.out.below hb1)
  clear hb1 
  go_upto_region 2 with fail
  obtain ⟨x2a, x2b, x2c, x2d⟩ := HE1.out.cells (.tail _ (.head _))
  go_wp2_with fail
  refine (Of_w ((HSA.out _ HE1.out.b).mono HE1.out.b.size) HA.out.2 HX.out).mono ?_
  rintro ex w3' ⟨v, rfl, ⟨A3, c3, rfl, ho3⟩, hb3⟩
  have HE3 : Hid (Ev w (w3'.alloc (.cells #[.bool (decide (x < 0)), .slice A3 ((digs 2 x.natAbs).length) c3] 28)) [.var 28 w3'.heap.size (.bool (decide (x < 0))) (.slice A3 ((digs 2 x.natAbs).length) c3), .own 3 A3 ((digs 2 x.natAbs).length) c3 (i64s (digs 2 x.natAbs)), .var 24 (w.heap.size + 1) (.bool nb) (.slice Ab n_b cb), .var 24 w.heap.size (.bool na) (.slice Aa n_a ca)]) := Lib.hid (Ev.var (Ev.own HE1.out hb3 ho3) 28 (.bool (decide (x < 0))) (.slice A3 ((digs 2 x.natAbs).length) c3))
  clear hb3 ho3 x2a x2b x2c x2d
  go_upto_region 3 with fail
  generalize (w3'.alloc (.cells #[.bool (decide (x < 0)), .slice A3 ((digs 2 x.natAbs).length) c3] 28)) = w3 at *
  generalize w3'.heap.size = g3 at *
  obtain ⟨x4a, x4b, x4c, x4d⟩ := HE3.out.cells (.tail _ (.tail _ (.head _)))
  go_wp2_with fail
  refine (Of_w ((HSB.out _ HE3.out.b).mono HE3.out.b.size) HB.out.2 HY.out).mono ?_
  rintro ex w5' ⟨v, rfl, ⟨A5, c5, rfl, ho5⟩, hb5⟩
  have HE5 : Hid (Ev w (w5'.alloc (.cells #[.bool (decide (y < 0)), .slice A5 ((digs 2 y.natAbs).length) c5] 28)) [.var 28 w5'.heap.size (.bool (decide (y < 0))) (.slice A5 ((digs 2 y.natAbs).length) c5), .own 3 A5 ((digs 2 y.natAbs).length) c5 (i64s (digs 2 y.natAbs)), .var 28 g3 (.bool (decide (x < 0))) (.slice A3 ((digs 2 x.natAbs).length) c3), .own 3 A3 ((digs 2 x.natAbs).length) c3 (i64s (digs 2 x.natAbs)), .var 24 (w.heap.size + 1) (.bool nb) (.slice Ab n_b cb), .var 24 w.heap.size (.bool na) (.slice Aa n_a ca)]) := Lib.hid (Ev.var (Ev.own HE3.out hb5 ho5) 28 (.bool (decide (y < 0))) (.slice A5 ((digs 2 y.natAbs).length) c5))
  clear hb5 ho5 x4a x4b x4c x4d
  go_upto_region 4 with fail
  generalize (w5'.alloc (.cells #[.bool (decide (y < 0)), .slice A5 ((digs 2 y.natAbs).length) c5] 28)) = w5 at *
  generalize w5'.heap.size = g5 at *
  obtain ⟨x6a, x6b, x6c, x6d⟩ := HE5.out.cells (.tail _ (.tail _ (.head _)))
  obtain ⟨x7a, x7b, x7c, x7d⟩ := HE5.out.cells (.head _)
  go_wp2_with fail
  refine (long_we (x := x) (y := y) HE.out _ _ _ _ _ _ _).mono ?_
  rintro ex w8' ⟨rfl, hb8⟩
  have HE8 : Hid (Ev w w8' [.var 28 g5 (.bool (decide (y < 0))) (.slice A5 ((digs 2 y.natAbs).length) c5), .own 3 A5 ((digs 2 y.natAbs).length) c5 (i64s (digs 2 y.natAbs)), .var 28 g3 (.bool (decide (x < 0))) (.slice A3 ((digs 2 x.natAbs).length) c3), .own 3 A3 ((digs 2 x.natAbs).length) c3 (i64s (digs 2 x.natAbs)), .var 24 (w.heap.size + 1) (.bool nb) (.slice Ab n_b cb), .var 24 w.heap.size (.bool na) (.slice Aa n_a ca)]) := Lib.hid (HE5.out.below hb8)
  clear hb8 x6a x6b x6c x6d x7a x7b x7c x7d
  go_upto_region 5 with fail
  obtain ⟨x9a, x9b, x9c, x9d⟩ := HE8.out.cells (.tail _ (.tail _ (.head _)))
  go_wp2_with fail
  refine (long_we (x := x) (y := x) HAL.out _ _ _ _ _ _ _).mono ?_
  rintro ex w10' ⟨rfl, hb10⟩
  have HE10 : Hid (Ev w w10' [.var 28 g5 (.bool (decide (y < 0))) (.slice A5 ((digs 2 y.natAbs).length) c5), .own 3 A5 ((digs 2 y.natAbs).length) c5 (i64s (digs 2 y.natAbs)), .var 28 g3 (.bool (decide (x < 0))) (.slice A3 ((digs 2 x.natAbs).length) c3), .own 3 A3 ((digs 2 x.natAbs).length) c3 (i64s (digs 2 x.natAbs)), .var 24 (w.heap.size + 1) (.bool nb) (.slice Ab n_b cb), .var 24 w.heap.size (.bool na) (.slice Aa n_a ca)]) := Lib.hid (HE8.out.below hb10)
  clear hb10 x9a x9b x9c x9d
  go_upto_region 6 with fail
  obtain ⟨x11a, x11b, x11c, x11d⟩ := HE10.out.cells (.tail _ (.tail _ (.tail _ (.tail _ (.tail _ (.head _))))))
  obtain ⟨x12a, x12b, x12c, x12d⟩ := HE10.out.cells (.tail _ (.tail _ (.tail _ (.tail _ (.head _)))))
  go_wp2_with fail
  refine (Gcd_w HE.out ((HSA.out _ HE10.out.b).mono HE10.out.b.size) ((HSB.out _ HE10.out.b).mono HE10.out.b.size) HA.out.2 HB.out.2 HX.out HY.out HGC.out).mono ?_
  rintro ex w13' ⟨neg13, A13, n13, c13, l13, rfl, ho13, hg13, hb13⟩
  have HG13 := Lib.hid hg13
  clear hg13
  have HE13 : Hid (Ev w (w13'.alloc (.cells #[.bool neg13, .slice A13 n13 c13] 24)) [.var 24 w13'.heap.size (.bool neg13) (.slice A13 n13 c13), .own 48 A13 n13 c13 (u32s l13), .var 28 g5 (.bool (decide (y < 0))) (.slice A5 ((digs 2 y.natAbs).length) c5), .own 3 A5 ((digs 2 y.natAbs).length) c5 (i64s (digs 2 y.natAbs)), .var 28 g3 (.bool (decide (x < 0))) (.slice A3 ((digs 2 x.natAbs).length) c3), .own 3 A3 ((digs 2 x.natAbs).length) c3 (i64s (digs 2 x.natAbs)), .var 24 (w.heap.size + 1) (.bool nb) (.slice Ab n_b cb), .var 24 w.heap.size (.bool na) (.slice Aa n_a ca)]) := Lib.hid (Ev.var (Ev.own HE10.out hb13 ho13) 24 (.bool neg13) (.slice A13 n13 c13))
  clear hb13 ho13 x11a x11b x11c x11d x12a x12b x12c x12d
  go_upto_region 7 with fail
  generalize (w13'.alloc (.cells #[.bool neg13, .slice A13 n13 c13] 24)) = w13 at *
  generalize w13'.heap.size = g13 at *
  obtain ⟨x14a, x14b, x14c, x14d⟩ := HE13.out.cells (.tail _ (.tail _ (.tail _ (.tail _ (.tail _ (.tail _ (.tail _ (.head _))))))))
  go_wp2_with fail
  refine (Pow_w (kn := kn) ((HSA.out _ HE13.out.b).mono HE13.out.b.size) HA.out.2 HX.out HP.out.1 HP.out.2).mono ?_
  rintro ex w15' ⟨neg15, A15, n15, c15, l15, rfl, ho15, hg15, hb15⟩
  have HG15 := Lib.hid hg15
  clear hg15
  have HE15 : Hid (Ev w (w15'.alloc (.cells #[.bool neg15, .slice A15 n15 c15] 24)) [.var 24 w15'.heap.size (.bool neg15) (.slice A15 n15 c15), .own 48 A15 n15 c15 (u32s l15), .var 24 g13 (.bool neg13) (.slice A13 n13 c13), .own 48 A13 n13 c13 (u32s l13), .var 28 g5 (.bool (decide (y < 0))) (.slice A5 ((digs 2 y.natAbs).length) c5), .own 3 A5 ((digs 2 y.natAbs).length) c5 (i64s (digs 2 y.natAbs)), .var 28 g3 (.bool (decide (x < 0))) (.slice A3 ((digs 2 x.natAbs).length) c3), .own 3 A3 ((digs 2 x.natAbs).length) c3 (i64s (digs 2 x.natAbs)), .var 24 (w.heap.size + 1) (.bool nb) (.slice Ab n_b cb), .var 24 w.heap.size (.bool na) (.slice Aa n_a ca)]) := Lib.hid (Ev.var (Ev.own HE13.out hb15 ho15) 24 (.bool neg15) (.slice A15 n15 c15))
  clear hb15 ho15 x14a x14b x14c x14d
  go_upto_region 8 with fail
  generalize (w15'.alloc (.cells #[.bool neg15, .slice A15 n15 c15] 24)) = w15 at *
  generalize w15'.heap.size = g15 at *
  obtain ⟨x16a, x16b, x16c, x16d⟩ := HE15.out.cells (.tail _ (.tail _ (.tail _ (.tail _ (.tail _ (.tail _ (.tail _ (.tail _ (.tail _ (.head _))))))))))
  go_wp2_with fail
  refine (Shift_w HKN.out.1 ((HSA.out _ HE15.out.b).mono HE15.out.b.size) HA.out.2 HX.out HSZ.out HSC.out).mono ?_
  rintro ex w17' ⟨neg17, A17, n17, c17, l17, rfl, ho17, hg17, hb17⟩
  have HG17 := Lib.hid hg17
  clear hg17
  have HE17 : Hid (Ev w (w17'.alloc (.cells #[.bool neg17, .slice A17 n17 c17] 24)) [.var 24 w17'.heap.size (.bool neg17) (.slice A17 n17 c17), .own 48 A17 n17 c17 (u32s l17), .var 24 g15 (.bool neg15) (.slice A15 n15 c15), .own 48 A15 n15 c15 (u32s l15), .var 24 g13 (.bool neg13) (.slice A13 n13 c13), .own 48 A13 n13 c13 (u32s l13), .var 28 g5 (.bool (decide (y < 0))) (.slice A5 ((digs 2 y.natAbs).length) c5), .own 3 A5 ((digs 2 y.natAbs).length) c5 (i64s (digs 2 y.natAbs)), .var 28 g3 (.bool (decide (x < 0))) (.slice A3 ((digs 2 x.natAbs).length) c3), .own 3 A3 ((digs 2 x.natAbs).length) c3 (i64s (digs 2 x.natAbs)), .var 24 (w.heap.size + 1) (.bool nb) (.slice Ab n_b cb), .var 24 w.heap.size (.bool na) (.slice Aa n_a ca)]) := Lib.hid (Ev.var (Ev.own HE15.out hb17 ho17) 24 (.bool neg17) (.slice A17 n17 c17))
  clear hb17 ho17 x16a x16b x16c x16d
  go_upto_region 9 with fail
  generalize (w17'.alloc (.cells #[.bool neg17, .slice A17 n17 c17] 24)) = w17 at *
  generalize w17'.heap.size = g17 at *
  go_upto_region 12 with fail
  obtain ⟨x18a, x18b, x18c, x18d⟩ := HE17.out.cells (.tail _ (.tail _ (.tail _ (.tail _ (.head _)))))
  obtain ⟨x19a, x19b, x19c, x19d⟩ := HE17.out.cells (.tail _ (.tail _ (.tail _ (.tail _ (.tail _ (.tail _ (.tail _ (.tail _ (.head _)))))))))
  go_wp2_with fail
  refine (is_b _ _ _ _ (Option.map Addr.block A13) HG13.out (by decide) rfl).mono ?_
  rintro ex w20' ⟨rfl, hg20⟩
  have HE20 : Hid (Ev w w20' [.var 24 g17 (.bool neg17) (.slice A17 n17 c17), .own 48 A17 n17 c17 (u32s l17), .var 24 g15 (.bool neg15) (.slice A15 n15 c15), .own 48 A15 n15 c15 (u32s l15), .var 24 g13 (.bool neg13) (.slice A13 n13 c13), .var 28 g5 (.bool (decide (y < 0))) (.slice A5 ((digs 2 y.natAbs).length) c5), .own 3 A5 ((digs 2 y.natAbs).length) c5 (i64s (digs 2 y.natAbs)), .var 28 g3 (.bool (decide (x < 0))) (.slice A3 ((digs 2 x.natAbs).length) c3), .own 3 A3 ((digs 2 x.natAbs).length) c3 (i64s (digs 2 x.natAbs)), .var 24 (w.heap.size + 1) (.bool nb) (.slice Ab n_b cb), .var 24 w.heap.size (.bool na) (.slice Aa n_a ca)]) := Lib.hid (Ev.spend [.var 24 g17 (.bool neg17) (.slice A17 n17 c17), .own 48 A17 n17 c17 (u32s l17), .var 24 g15 (.bool neg15) (.slice A15 n15 c15), .own 48 A15 n15 c15 (u32s l15), .var 24 g13 (.bool neg13) (.slice A13 n13 c13)] (.own 48 A13 n13 c13 (u32s l13)) [.var 28 g5 (.bool (decide (y < 0))) (.slice A5 ((digs 2 y.natAbs).length) c5), .own 3 A5 ((digs 2 y.natAbs).length) c5 (i64s (digs 2 y.natAbs)), .var 28 g3 (.bool (decide (x < 0))) (.slice A3 ((digs 2 x.natAbs).length) c3), .own 3 A3 ((digs 2 x.natAbs).length) c3 (i64s (digs 2 x.natAbs)), .var 24 (w.heap.size + 1) (.bool nb) (.slice Ab n_b cb), .var 24 w.heap.size (.bool na) (.slice Aa n_a ca)] HE17.out hg20)
  clear hg20 x18a x18b x18c x18d x19a x19b x19c x19d
  go_upto_region 13 with fail
  obtain ⟨x21a, x21b, x21c, x21d⟩ := HE20.out.cells (.tail _ (.tail _ (.tail _ (.tail _ (.tail _ (.tail _ (.tail _ (.head _))))))))
  obtain ⟨x22a, x22b, x22c, x22d⟩ := HE20.out.cells (.tail _ (.tail _ (.head _)))
  go_wp2_with fail
  refine (powered_any HKN.out.2 (bits_sl (HE20.out.has (.tail _ (.tail _ (.tail _ (.tail _ (.tail _ (.tail _ (.tail _ (.tail _ (.head _))))))))))) (HE20.out.has (.tail _ (.tail _ (.tail _ (.head _))))) HE20.out.b.size HG15.out HP.out.1 HP.out.2 HA1.out).mono ?_
  rintro ex w23' ⟨rfl, hg23⟩
  have HE23 : Hid (Ev w w23' [.var 24 g17 (.bool neg17) (.slice A17 n17 c17), .own 48 A17 n17 c17 (u32s l17), .var 24 g15 (.bool neg15) (.slice A15 n15 c15), .var 24 g13 (.bool neg13) (.slice A13 n13 c13), .var 28 g5 (.bool (decide (y < 0))) (.slice A5 ((digs 2 y.natAbs).length) c5), .own 3 A5 ((digs 2 y.natAbs).length) c5 (i64s (digs 2 y.natAbs)), .var 28 g3 (.bool (decide (x < 0))) (.slice A3 ((digs 2 x.natAbs).length) c3), .own 3 A3 ((digs 2 x.natAbs).length) c3 (i64s (digs 2 x.natAbs)), .var 24 (w.heap.size + 1) (.bool nb) (.slice Ab n_b cb), .var 24 w.heap.size (.bool na) (.slice Aa n_a ca)]) := Lib.hid (Ev.spend [.var 24 g17 (.bool neg17) (.slice A17 n17 c17), .own 48 A17 n17 c17 (u32s l17), .var 24 g15 (.bool neg15) (.slice A15 n15 c15)] (.own 48 A15 n15 c15 (u32s l15)) [.var 24 g13 (.bool neg13) (.slice A13 n13 c13), .var 28 g5 (.bool (decide (y < 0))) (.slice A5 ((digs 2 y.natAbs).length) c5), .own 3 A5 ((digs 2 y.natAbs).length) c5 (i64s (digs 2 y.natAbs)), .var 28 g3 (.bool (decide (x < 0))) (.slice A3 ((digs 2 x.natAbs).length) c3), .own 3 A3 ((digs 2 x.natAbs).length) c3 (i64s (digs 2 x.natAbs)), .var 24 (w.heap.size + 1) (.bool nb) (.slice Ab n_b cb), .var 24 w.heap.size (.bool na) (.slice Aa n_a ca)] HE20.out hg23)
  clear hg23 x21a x21b x21c x21d x22a x22b x22c x22d
  go_upto_region 14 with fail
  go_upto_region 14 with fail
  have HE24 : Hid (Ev w (w23'.alloc (.cells #[.bool false, .slice none 0 0] 28)) [.var 28 w23'.heap.size (.bool false) (.slice none 0 0), .var 24 g17 (.bool neg17) (.slice A17 n17 c17), .own 48 A17 n17 c17 (u32s l17), .var 24 g15 (.bool neg15) (.slice A15 n15 c15), .var 24 g13 (.bool neg13) (.slice A13 n13 c13), .var 28 g5 (.bool (decide (y < 0))) (.slice A5 ((digs 2 y.natAbs).length) c5), .own 3 A5 ((digs 2 y.natAbs).length) c5 (i64s (digs 2 y.natAbs)), .var 28 g3 (.bool (decide (x < 0))) (.slice A3 ((digs 2 x.natAbs).length) c3), .own 3 A3 ((digs 2 x.natAbs).length) c3 (i64s (digs 2 x.natAbs)), .var 24 (w.heap.size + 1) (.bool nb) (.slice Ab n_b cb), .var 24 w.heap.size (.bool na) (.slice Aa n_a ca)]) := Lib.hid (Ev.var HE23.out 28 (.bool false) (.slice none 0 0))
  go_upto_region 15 with fail
  generalize (w23'.alloc (.cells #[.bool false, .slice none 0 0] 28)) = w24 at *
  generalize w23'.heap.size = g24 at *
  obtain ⟨x25a, x25b, x25c, x25d⟩ := HE24.out.cells (.tail _ (.tail _ (.tail _ (.tail _ (.tail _ (.tail _ (.tail _ (.head _))))))))
  go_upto_region 20 with fail
  clear x25a x25b x25c x25d
  obtain ⟨x26a, x26b, x26c, x26d⟩ := HE24.out.cells (.tail _ (.head _))
  obtain ⟨x27a, x27b, x27c, x27d⟩ := HE24.out.cells (.head _)
  go_wp2_with fail
  refine (is_0 (HE24.out.has (.tail _ (.tail _ (.head _)))) HE24.out.b.size HG17.out HS0.out rfl).mono ?_
  rintro ex w28' ⟨rfl, hg28⟩
  have HE28 : Hid (Ev w w28' [.var 28 g24 (.bool false) (.slice none 0 0), .var 24 g17 (.bool neg17) (.slice A17 n17 c17), .var 24 g15 (.bool neg15) (.slice A15 n15 c15), .var 24 g13 (.bool neg13) (.slice A13 n13 c13), .var 28 g5 (.bool (decide (y < 0))) (.slice A5 ((digs 2 y.natAbs).length) c5), .own 3 A5 ((digs 2 y.natAbs).length) c5 (i64s (digs 2 y.natAbs)), .var 28 g3 (.bool (decide (x < 0))) (.slice A3 ((digs 2 x.natAbs).length) c3), .own 3 A3 ((digs 2 x.natAbs).length) c3 (i64s (digs 2 x.natAbs)), .var 24 (w.heap.size + 1) (.bool nb) (.slice Ab n_b cb), .var 24 w.heap.size (.bool na) (.slice Aa n_a ca)]) := Lib.hid (Ev.spend [.var 28 g24 (.bool false) (.slice none 0 0), .var 24 g17 (.bool neg17) (.slice A17 n17 c17)] (.own 48 A17 n17 c17 (u32s l17)) [.var 24 g15 (.bool neg15) (.slice A15 n15 c15), .var 24 g13 (.bool neg13) (.slice A13 n13 c13), .var 28 g5 (.bool (decide (y < 0))) (.slice A5 ((digs 2 y.natAbs).length) c5), .own 3 A5 ((digs 2 y.natAbs).length) c5 (i64s (digs 2 y.natAbs)), .var 28 g3 (.bool (decide (x < 0))) (.slice A3 ((digs 2 x.natAbs).length) c3), .own 3 A3 ((digs 2 x.natAbs).length) c3 (i64s (digs 2 x.natAbs)), .var 24 (w.heap.size + 1) (.bool nb) (.slice Ab n_b cb), .var 24 w.heap.size (.bool na) (.slice Aa n_a ca)] HE24.out hg28)
  clear hg28 x26a x26b x26c x26d x27a x27b x27c x27d
  go_upto_region 21 with fail
  go_wp2
  go_ret
  exact ⟨rfl, HE28.out.b⟩
set_option maxRecDepth 100000 in
set_option maxHeartbeats 16000000 in
theorem Powers_yl_t3 (na nb : Bool) (kn : Int) (hkn : -9223372036854775808 ≤ kn ∧ kn ≤ 9223372036854775807) {Aa Ab : Option Addr} {la lb : List Nat} {n_a ca n_b cb : Nat} {w : World} {x y : Int} (hx : ival na la = x) (hy : ival nb lb = y) (hsa : SlU w w.heap.size Aa n_a ca la) (hsb : SlU w w.heap.size Ab n_b cb lb) (hna : n_a ≤ 1048576) (hnb : n_b ≤ 1048576) (hlx : tooLong x = false) (hly : tooLong y = true) (hx0 : x ≠ 0) (hkb : 4096 < kn) :
    Calls Try.prog 10 #[.agg #[.bool na, .slice Aa n_a ca], .agg #[.bool nb, .slice Ab n_b cb], .int .i64 kn] w fun e w' => e = .returned (.bool true) ∧ Below w.heap.size w w' := by
  have HX := Lib.hid hx
  have HY := Lib.hid hy
  have HKN := Lib.hid hkn
  obtain ⟨g, hg⟩ : ∃ g, Nat.gcd x.natAbs y.natAbs = g := ⟨_, rfl⟩
  have HGC := Lib.hid hg
  obtain ⟨pz, hpz⟩ : ∃ z, x ^ kn.toNat = z := ⟨_, rfl⟩
  obtain ⟨pc, hpc⟩ : ∃ c, pwCode (tooLong x) x kn = c := ⟨_, rfl⟩
  have HP := Lib.hid (And.intro hpz hpc)
  obtain ⟨sz, hsz⟩ : ∃ z, shZ x kn = z := ⟨_, rfl⟩
  have HSZ := Lib.hid hsz
  have HE := Lib.hid (show err (tooLong x || tooLong y) = 10 by rw [hlx, hly]; rfl)
  have HAL := Lib.hid (show err (tooLong x || tooLong x) = 0 by rw [hlx]; rfl)
  have HA1 := Lib.hid (show err (tooLong x) = 0 by rw [hlx]; rfl)
  have HSC := Lib.hid (show err (tooLong x || tooLong sz) = 10 by rw [hlx, ← hsz, up_long hx0 hkb]; rfl)
  have hl0 : (((digs 2 x.natAbs).length : Int) == 0) = false := beq_eq_false_iff_ne.2 (fun e => hx0 (len_zero.1 (by omega)))
  have hk4 : decide ((4096 : Int) < kn) = true := decide_eq_true (by omega)
  have HNX := Lib.hid (bits_le hsa hna hx)
  have HNY := Lib.hid (bits_le hsb hnb hy)
  have HA := Lib.hid (And.intro hna hna)
  have HB := Lib.hid (And.intro hnb hnb)
  have HSA := Lib.hid (fun w1 (hb : Below w.heap.size w w1) => hsa.below hb (Nat.le_refl _))
  have HSB := Lib.hid (fun w1 (hb : Below w.heap.size w w1) => hsb.below hb (Nat.le_refl _))
  have he0 := (Ev.var (Ev.var (Ev.nil w) 24 (.bool na) (.slice Aa n_a ca)) 24 (.bool nb) (.slice Ab n_b cb))
  try simp only [World.size_alloc] at he0
  have HE0 : Hid (Ev w ((w.alloc (.cells #[.bool na, .slice Aa n_a ca] 24)).alloc (.cells #[.bool nb, .slice Ab n_b cb] 24)) [.var 24 (w.heap.size + 1) (.bool nb) (.slice Ab n_b cb), .var 24 w.heap.size (.bool na) (.slice Aa n_a ca)]) := Lib.hid he0
  clear he0
  clear hsa hsb hna hnb hx hy hg hpz hpc hsz hlx hly hx0 hkb hkn
  go_enter Try.func10, Try.ntmps10
  go_upto_region 1 with fail
  generalize ((w.alloc (.cells #[.bool na, .slice Aa n_a ca] 24)).alloc (.cells #[.bool nb, .slice Ab n_b cb] 24)) = w1 at *
  go_wp2_with fail
  refine (awake_any _).mono ?_
  rintro ex w1' ⟨rfl, hb1⟩
  have HE1 : Hid (Ev w w1' [.var 24 (w.heap.size + 1) (.bool nb) (.slice Ab n_b cb), .var 24 w.heap.size (.bool na) (.slice Aa n_a ca)]) := Lib.hid (HE0.out.below hb1)
  clear hb1 
  go_upto_region 2 with fail
  obtain ⟨x2a, x2b, x2c, x2d⟩ := HE1.out.cells (.tail _ (.head _))
  go_wp2_with fail
  refine (Of_w ((HSA.out _ HE1.out.b).mono HE1.out.b.size) HA.out.2 HX.out).mono ?_
  rintro ex w3' ⟨v, rfl, ⟨A3, c3, rfl, ho3⟩, hb3⟩
  have HE3 : Hid (Ev w (w3'.alloc (.cells #[.bool (decide (x < 0)), .slice A3 ((digs 2 x.natAbs).length) c3] 28)) [.var 28 w3'.heap.size (.bool (decide (x < 0))) (.slice A3 ((digs 2 x.natAbs).length) c3), .own 3 A3 ((digs 2 x.natAbs).length) c3 (i64s (digs 2 x.natAbs)), .var 24 (w.heap.size + 1) (.bool nb) (.slice Ab n_b cb), .var 24 w.heap.size (.bool na) (.slice Aa n_a ca)]) := Lib.hid (Ev.var (Ev.own HE1.out hb3 ho3) 28 (.bool (decide (x < 0))) (.slice A3 ((digs 2 x.natAbs).length) c3))
  clear hb3 ho3 x2a x2b x2c x2d
  go_upto_region 3 with fail
  generalize (w3'.alloc (.cells #[.bool (decide (x < 0)), .slice A3 ((digs 2 x.natAbs).length) c3] 28)) = w3 at *
  generalize w3'.heap.size = g3 at *
  obtain ⟨x4a, x4b, x4c, x4d⟩ := HE3.out.cells (.tail _ (.tail _ (.head _)))
  go_wp2_with fail
  refine (Of_w ((HSB.out _ HE3.out.b).mono HE3.out.b.size) HB.out.2 HY.out).mono ?_
  rintro ex w5' ⟨v, rfl, ⟨A5, c5, rfl, ho5⟩, hb5⟩
  have HE5 : Hid (Ev w (w5'.alloc (.cells #[.bool (decide (y < 0)), .slice A5 ((digs 2 y.natAbs).length) c5] 28)) [.var 28 w5'.heap.size (.bool (decide (y < 0))) (.slice A5 ((digs 2 y.natAbs).length) c5), .own 3 A5 ((digs 2 y.natAbs).length) c5 (i64s (digs 2 y.natAbs)), .var 28 g3 (.bool (decide (x < 0))) (.slice A3 ((digs 2 x.natAbs).length) c3), .own 3 A3 ((digs 2 x.natAbs).length) c3 (i64s (digs 2 x.natAbs)), .var 24 (w.heap.size + 1) (.bool nb) (.slice Ab n_b cb), .var 24 w.heap.size (.bool na) (.slice Aa n_a ca)]) := Lib.hid (Ev.var (Ev.own HE3.out hb5 ho5) 28 (.bool (decide (y < 0))) (.slice A5 ((digs 2 y.natAbs).length) c5))
  clear hb5 ho5 x4a x4b x4c x4d
  go_upto_region 4 with fail
  generalize (w5'.alloc (.cells #[.bool (decide (y < 0)), .slice A5 ((digs 2 y.natAbs).length) c5] 28)) = w5 at *
  generalize w5'.heap.size = g5 at *
  obtain ⟨x6a, x6b, x6c, x6d⟩ := HE5.out.cells (.tail _ (.tail _ (.head _)))
  obtain ⟨x7a, x7b, x7c, x7d⟩ := HE5.out.cells (.head _)
  go_wp2_with fail
  refine (long_we (x := x) (y := y) HE.out _ _ _ _ _ _ _).mono ?_
  rintro ex w8' ⟨rfl, hb8⟩
  have HE8 : Hid (Ev w w8' [.var 28 g5 (.bool (decide (y < 0))) (.slice A5 ((digs 2 y.natAbs).length) c5), .own 3 A5 ((digs 2 y.natAbs).length) c5 (i64s (digs 2 y.natAbs)), .var 28 g3 (.bool (decide (x < 0))) (.slice A3 ((digs 2 x.natAbs).length) c3), .own 3 A3 ((digs 2 x.natAbs).length) c3 (i64s (digs 2 x.natAbs)), .var 24 (w.heap.size + 1) (.bool nb) (.slice Ab n_b cb), .var 24 w.heap.size (.bool na) (.slice Aa n_a ca)]) := Lib.hid (HE5.out.below hb8)
  clear hb8 x6a x6b x6c x6d x7a x7b x7c x7d
  go_upto_region 5 with fail
  obtain ⟨x9a, x9b, x9c, x9d⟩ := HE8.out.cells (.tail _ (.tail _ (.head _)))
  go_wp2_with fail
  refine (long_we (x := x) (y := x) HAL.out _ _ _ _ _ _ _).mono ?_
  rintro ex w10' ⟨rfl, hb10⟩
  have HE10 : Hid (Ev w w10' [.var 28 g5 (.bool (decide (y < 0))) (.slice A5 ((digs 2 y.natAbs).length) c5), .own 3 A5 ((digs 2 y.natAbs).length) c5 (i64s (digs 2 y.natAbs)), .var 28 g3 (.bool (decide (x < 0))) (.slice A3 ((digs 2 x.natAbs).length) c3), .own 3 A3 ((digs 2 x.natAbs).length) c3 (i64s (digs 2 x.natAbs)), .var 24 (w.heap.size + 1) (.bool nb) (.slice Ab n_b cb), .var 24 w.heap.size (.bool na) (.slice Aa n_a ca)]) := Lib.hid (HE8.out.below hb10)
  clear hb10 x9a x9b x9c x9d
  go_upto_region 6 with fail
  obtain ⟨x11a, x11b, x11c, x11d⟩ := HE10.out.cells (.tail _ (.tail _ (.tail _ (.tail _ (.tail _ (.head _))))))
  obtain ⟨x12a, x12b, x12c, x12d⟩ := HE10.out.cells (.tail _ (.tail _ (.tail _ (.tail _ (.head _)))))
  go_wp2_with fail
  refine (Gcd_w HE.out ((HSA.out _ HE10.out.b).mono HE10.out.b.size) ((HSB.out _ HE10.out.b).mono HE10.out.b.size) HA.out.2 HB.out.2 HX.out HY.out HGC.out).mono ?_
  rintro ex w13' ⟨neg13, A13, n13, c13, l13, rfl, ho13, hg13, hb13⟩
  have HG13 := Lib.hid hg13
  clear hg13
  have HE13 : Hid (Ev w (w13'.alloc (.cells #[.bool neg13, .slice A13 n13 c13] 24)) [.var 24 w13'.heap.size (.bool neg13) (.slice A13 n13 c13), .own 48 A13 n13 c13 (u32s l13), .var 28 g5 (.bool (decide (y < 0))) (.slice A5 ((digs 2 y.natAbs).length) c5), .own 3 A5 ((digs 2 y.natAbs).length) c5 (i64s (digs 2 y.natAbs)), .var 28 g3 (.bool (decide (x < 0))) (.slice A3 ((digs 2 x.natAbs).length) c3), .own 3 A3 ((digs 2 x.natAbs).length) c3 (i64s (digs 2 x.natAbs)), .var 24 (w.heap.size + 1) (.bool nb) (.slice Ab n_b cb), .var 24 w.heap.size (.bool na) (.slice Aa n_a ca)]) := Lib.hid (Ev.var (Ev.own HE10.out hb13 ho13) 24 (.bool neg13) (.slice A13 n13 c13))
  clear hb13 ho13 x11a x11b x11c x11d x12a x12b x12c x12d
  go_upto_region 7 with fail
  generalize (w13'.alloc (.cells #[.bool neg13, .slice A13 n13 c13] 24)) = w13 at *
  generalize w13'.heap.size = g13 at *
  obtain ⟨x14a, x14b, x14c, x14d⟩ := HE13.out.cells (.tail _ (.tail _ (.tail _ (.tail _ (.tail _ (.tail _ (.tail _ (.head _))))))))
  go_wp2_with fail
  refine (Pow_w (kn := kn) ((HSA.out _ HE13.out.b).mono HE13.out.b.size) HA.out.2 HX.out HP.out.1 HP.out.2).mono ?_
  rintro ex w15' ⟨neg15, A15, n15, c15, l15, rfl, ho15, hg15, hb15⟩
  have HG15 := Lib.hid hg15
  clear hg15
  have HE15 : Hid (Ev w (w15'.alloc (.cells #[.bool neg15, .slice A15 n15 c15] 24)) [.var 24 w15'.heap.size (.bool neg15) (.slice A15 n15 c15), .own 48 A15 n15 c15 (u32s l15), .var 24 g13 (.bool neg13) (.slice A13 n13 c13), .own 48 A13 n13 c13 (u32s l13), .var 28 g5 (.bool (decide (y < 0))) (.slice A5 ((digs 2 y.natAbs).length) c5), .own 3 A5 ((digs 2 y.natAbs).length) c5 (i64s (digs 2 y.natAbs)), .var 28 g3 (.bool (decide (x < 0))) (.slice A3 ((digs 2 x.natAbs).length) c3), .own 3 A3 ((digs 2 x.natAbs).length) c3 (i64s (digs 2 x.natAbs)), .var 24 (w.heap.size + 1) (.bool nb) (.slice Ab n_b cb), .var 24 w.heap.size (.bool na) (.slice Aa n_a ca)]) := Lib.hid (Ev.var (Ev.own HE13.out hb15 ho15) 24 (.bool neg15) (.slice A15 n15 c15))
  clear hb15 ho15 x14a x14b x14c x14d
  go_upto_region 8 with fail
  generalize (w15'.alloc (.cells #[.bool neg15, .slice A15 n15 c15] 24)) = w15 at *
  generalize w15'.heap.size = g15 at *
  obtain ⟨x16a, x16b, x16c, x16d⟩ := HE15.out.cells (.tail _ (.tail _ (.tail _ (.tail _ (.tail _ (.tail _ (.tail _ (.tail _ (.tail _ (.head _))))))))))
  go_wp2_with fail
  refine (Shift_w HKN.out.1 ((HSA.out _ HE15.out.b).mono HE15.out.b.size) HA.out.2 HX.out HSZ.out HSC.out).mono ?_
  rintro ex w17' ⟨neg17, A17, n17, c17, l17, rfl, ho17, hg17, hb17⟩
  have HG17 := Lib.hid hg17
  clear hg17
  have HE17 : Hid (Ev w (w17'.alloc (.cells #[.bool neg17, .slice A17 n17 c17] 24)) [.var 24 w17'.heap.size (.bool neg17) (.slice A17 n17 c17), .own 48 A17 n17 c17 (u32s l17), .var 24 g15 (.bool neg15) (.slice A15 n15 c15), .own 48 A15 n15 c15 (u32s l15), .var 24 g13 (.bool neg13) (.slice A13 n13 c13), .own 48 A13 n13 c13 (u32s l13), .var 28 g5 (.bool (decide (y < 0))) (.slice A5 ((digs 2 y.natAbs).length) c5), .own 3 A5 ((digs 2 y.natAbs).length) c5 (i64s (digs 2 y.natAbs)), .var 28 g3 (.bool (decide (x < 0))) (.slice A3 ((digs 2 x.natAbs).length) c3), .own 3 A3 ((digs 2 x.natAbs).length) c3 (i64s (digs 2 x.natAbs)), .var 24 (w.heap.size + 1) (.bool nb) (.slice Ab n_b cb), .var 24 w.heap.size (.bool na) (.slice Aa n_a ca)]) := Lib.hid (Ev.var (Ev.own HE15.out hb17 ho17) 24 (.bool neg17) (.slice A17 n17 c17))
  clear hb17 ho17 x16a x16b x16c x16d
  go_upto_region 9 with fail
  generalize (w17'.alloc (.cells #[.bool neg17, .slice A17 n17 c17] 24)) = w17 at *
  generalize w17'.heap.size = g17 at *
  go_upto_region 12 with fail
  obtain ⟨x18a, x18b, x18c, x18d⟩ := HE17.out.cells (.tail _ (.tail _ (.tail _ (.tail _ (.head _)))))
  obtain ⟨x19a, x19b, x19c, x19d⟩ := HE17.out.cells (.tail _ (.tail _ (.tail _ (.tail _ (.tail _ (.tail _ (.tail _ (.tail _ (.head _)))))))))
  go_wp2_with fail
  refine (is_b _ _ _ _ (Option.map Addr.block A13) HG13.out (by decide) rfl).mono ?_
  rintro ex w20' ⟨rfl, hg20⟩
  have HE20 : Hid (Ev w w20' [.var 24 g17 (.bool neg17) (.slice A17 n17 c17), .own 48 A17 n17 c17 (u32s l17), .var 24 g15 (.bool neg15) (.slice A15 n15 c15), .own 48 A15 n15 c15 (u32s l15), .var 24 g13 (.bool neg13) (.slice A13 n13 c13), .var 28 g5 (.bool (decide (y < 0))) (.slice A5 ((digs 2 y.natAbs).length) c5), .own 3 A5 ((digs 2 y.natAbs).length) c5 (i64s (digs 2 y.natAbs)), .var 28 g3 (.bool (decide (x < 0))) (.slice A3 ((digs 2 x.natAbs).length) c3), .own 3 A3 ((digs 2 x.natAbs).length) c3 (i64s (digs 2 x.natAbs)), .var 24 (w.heap.size + 1) (.bool nb) (.slice Ab n_b cb), .var 24 w.heap.size (.bool na) (.slice Aa n_a ca)]) := Lib.hid (Ev.spend [.var 24 g17 (.bool neg17) (.slice A17 n17 c17), .own 48 A17 n17 c17 (u32s l17), .var 24 g15 (.bool neg15) (.slice A15 n15 c15), .own 48 A15 n15 c15 (u32s l15), .var 24 g13 (.bool neg13) (.slice A13 n13 c13)] (.own 48 A13 n13 c13 (u32s l13)) [.var 28 g5 (.bool (decide (y < 0))) (.slice A5 ((digs 2 y.natAbs).length) c5), .own 3 A5 ((digs 2 y.natAbs).length) c5 (i64s (digs 2 y.natAbs)), .var 28 g3 (.bool (decide (x < 0))) (.slice A3 ((digs 2 x.natAbs).length) c3), .own 3 A3 ((digs 2 x.natAbs).length) c3 (i64s (digs 2 x.natAbs)), .var 24 (w.heap.size + 1) (.bool nb) (.slice Ab n_b cb), .var 24 w.heap.size (.bool na) (.slice Aa n_a ca)] HE17.out hg20)
  clear hg20 x18a x18b x18c x18d x19a x19b x19c x19d
  go_upto_region 13 with fail
  obtain ⟨x21a, x21b, x21c, x21d⟩ := HE20.out.cells (.tail _ (.tail _ (.tail _ (.tail _ (.tail _ (.tail _ (.tail _ (.head _))))))))
  obtain ⟨x22a, x22b, x22c, x22d⟩ := HE20.out.cells (.tail _ (.tail _ (.head _)))
  go_wp2_with fail
  refine (powered_any HKN.out.2 (bits_sl (HE20.out.has (.tail _ (.tail _ (.tail _ (.tail _ (.tail _ (.tail _ (.tail _ (.tail _ (.head _))))))))))) (HE20.out.has (.tail _ (.tail _ (.tail _ (.head _))))) HE20.out.b.size HG15.out HP.out.1 HP.out.2 HA1.out).mono ?_
  rintro ex w23' ⟨rfl, hg23⟩
  have HE23 : Hid (Ev w w23' [.var 24 g17 (.bool neg17) (.slice A17 n17 c17), .own 48 A17 n17 c17 (u32s l17), .var 24 g15 (.bool neg15) (.slice A15 n15 c15), .var 24 g13 (.bool neg13) (.slice A13 n13 c13), .var 28 g5 (.bool (decide (y < 0))) (.slice A5 ((digs 2 y.natAbs).length) c5), .own 3 A5 ((digs 2 y.natAbs).length) c5 (i64s (digs 2 y.natAbs)), .var 28 g3 (.bool (decide (x < 0))) (.slice A3 ((digs 2 x.natAbs).length) c3), .own 3 A3 ((digs 2 x.natAbs).length) c3 (i64s (digs 2 x.natAbs)), .var 24 (w.heap.size + 1) (.bool nb) (.slice Ab n_b cb), .var 24 w.heap.size (.bool na) (.slice Aa n_a ca)]) := Lib.hid (Ev.spend [.var 24 g17 (.bool neg17) (.slice A17 n17 c17), .own 48 A17 n17 c17 (u32s l17), .var 24 g15 (.bool neg15) (.slice A15 n15 c15)] (.own 48 A15 n15 c15 (u32s l15)) [.var 24 g13 (.bool neg13) (.slice A13 n13 c13), .var 28 g5 (.bool (decide (y < 0))) (.slice A5 ((digs 2 y.natAbs).length) c5), .own 3 A5 ((digs 2 y.natAbs).length) c5 (i64s (digs 2 y.natAbs)), .var 28 g3 (.bool (decide (x < 0))) (.slice A3 ((digs 2 x.natAbs).length) c3), .own 3 A3 ((digs 2 x.natAbs).length) c3 (i64s (digs 2 x.natAbs)), .var 24 (w.heap.size + 1) (.bool nb) (.slice Ab n_b cb), .var 24 w.heap.size (.bool na) (.slice Aa n_a ca)] HE20.out hg23)
  clear hg23 x21a x21b x21c x21d x22a x22b x22c x22d
  go_upto_region 14 with fail
  go_upto_region 14 with fail
  have HE24 : Hid (Ev w (w23'.alloc (.cells #[.bool false, .slice none 0 0] 28)) [.var 28 w23'.heap.size (.bool false) (.slice none 0 0), .var 24 g17 (.bool neg17) (.slice A17 n17 c17), .own 48 A17 n17 c17 (u32s l17), .var 24 g15 (.bool neg15) (.slice A15 n15 c15), .var 24 g13 (.bool neg13) (.slice A13 n13 c13), .var 28 g5 (.bool (decide (y < 0))) (.slice A5 ((digs 2 y.natAbs).length) c5), .own 3 A5 ((digs 2 y.natAbs).length) c5 (i64s (digs 2 y.natAbs)), .var 28 g3 (.bool (decide (x < 0))) (.slice A3 ((digs 2 x.natAbs).length) c3), .own 3 A3 ((digs 2 x.natAbs).length) c3 (i64s (digs 2 x.natAbs)), .var 24 (w.heap.size + 1) (.bool nb) (.slice Ab n_b cb), .var 24 w.heap.size (.bool na) (.slice Aa n_a ca)]) := Lib.hid (Ev.var HE23.out 28 (.bool false) (.slice none 0 0))
  go_upto_region 15 with fail
  generalize (w23'.alloc (.cells #[.bool false, .slice none 0 0] 28)) = w24 at *
  generalize w23'.heap.size = g24 at *
  obtain ⟨x25a, x25b, x25c, x25d⟩ := HE24.out.cells (.tail _ (.tail _ (.tail _ (.tail _ (.tail _ (.tail _ (.tail _ (.head _))))))))
  go_upto_region 20 with fail
  clear x25a x25b x25c x25d
  obtain ⟨x26a, x26b, x26c, x26d⟩ := HE24.out.cells (.tail _ (.head _))
  obtain ⟨x27a, x27b, x27c, x27d⟩ := HE24.out.cells (.head _)
  go_wp2_with fail
  refine (is_b _ _ _ _ (Option.map Addr.block A17) HG17.out (by decide) rfl).mono ?_
  rintro ex w28' ⟨rfl, hg28⟩
  have HE28 : Hid (Ev w w28' [.var 28 g24 (.bool false) (.slice none 0 0), .var 24 g17 (.bool neg17) (.slice A17 n17 c17), .var 24 g15 (.bool neg15) (.slice A15 n15 c15), .var 24 g13 (.bool neg13) (.slice A13 n13 c13), .var 28 g5 (.bool (decide (y < 0))) (.slice A5 ((digs 2 y.natAbs).length) c5), .own 3 A5 ((digs 2 y.natAbs).length) c5 (i64s (digs 2 y.natAbs)), .var 28 g3 (.bool (decide (x < 0))) (.slice A3 ((digs 2 x.natAbs).length) c3), .own 3 A3 ((digs 2 x.natAbs).length) c3 (i64s (digs 2 x.natAbs)), .var 24 (w.heap.size + 1) (.bool nb) (.slice Ab n_b cb), .var 24 w.heap.size (.bool na) (.slice Aa n_a ca)]) := Lib.hid (Ev.spend [.var 28 g24 (.bool false) (.slice none 0 0), .var 24 g17 (.bool neg17) (.slice A17 n17 c17)] (.own 48 A17 n17 c17 (u32s l17)) [.var 24 g15 (.bool neg15) (.slice A15 n15 c15), .var 24 g13 (.bool neg13) (.slice A13 n13 c13), .var 28 g5 (.bool (decide (y < 0))) (.slice A5 ((digs 2 y.natAbs).length) c5), .own 3 A5 ((digs 2 y.natAbs).length) c5 (i64s (digs 2 y.natAbs)), .var 28 g3 (.bool (decide (x < 0))) (.slice A3 ((digs 2 x.natAbs).length) c3), .own 3 A3 ((digs 2 x.natAbs).length) c3 (i64s (digs 2 x.natAbs)), .var 24 (w.heap.size + 1) (.bool nb) (.slice Ab n_b cb), .var 24 w.heap.size (.bool na) (.slice Aa n_a ca)] HE24.out hg28)
  clear hg28 x26a x26b x26c x26d x27a x27b x27c x27d
  go_upto_region 21 with fail
  go_wp2
  go_ret
  exact ⟨rfl, HE28.out.b⟩
set_option maxRecDepth 100000 in
set_option maxHeartbeats 16000000 in
theorem Powers_yl_t4 (na nb : Bool) (kn : Int) (hkn : -9223372036854775808 ≤ kn ∧ kn ≤ 9223372036854775807) {Aa Ab : Option Addr} {la lb : List Nat} {n_a ca n_b cb : Nat} {w : World} {x y : Int} (hx : ival na la = x) (hy : ival nb lb = y) (hsa : SlU w w.heap.size Aa n_a ca la) (hsb : SlU w w.heap.size Ab n_b cb lb) (hna : n_a ≤ 1048576) (hnb : n_b ≤ 1048576) (hlx : tooLong x = false) (hly : tooLong y = true) (hx0 : x ≠ 0) (hkb : kn ≤ 4096) :
    Calls Try.prog 10 #[.agg #[.bool na, .slice Aa n_a ca], .agg #[.bool nb, .slice Ab n_b cb], .int .i64 kn] w fun e w' => e = .returned (.bool true) ∧ Below w.heap.size w w' := by
  have HX := Lib.hid hx
  have HY := Lib.hid hy
  have HKN := Lib.hid hkn
  obtain ⟨g, hg⟩ : ∃ g, Nat.gcd x.natAbs y.natAbs = g := ⟨_, rfl⟩
  have HGC := Lib.hid hg
  obtain ⟨pz, hpz⟩ : ∃ z, x ^ kn.toNat = z := ⟨_, rfl⟩
  obtain ⟨pc, hpc⟩ : ∃ c, pwCode (tooLong x) x kn = c := ⟨_, rfl⟩
  have HP := Lib.hid (And.intro hpz hpc)
  obtain ⟨sz, hsz⟩ : ∃ z, shZ x kn = z := ⟨_, rfl⟩
  have HSZ := Lib.hid hsz
  have HE := Lib.hid (show err (tooLong x || tooLong y) = 10 by rw [hlx, hly]; rfl)
  have HAL := Lib.hid (show err (tooLong x || tooLong x) = 0 by rw [hlx]; rfl)
  have HA1 := Lib.hid (show err (tooLong x) = 0 by rw [hlx]; rfl)
  obtain ⟨sc, hsc⟩ : ∃ c, err (tooLong sz) = c := ⟨_, rfl⟩
  have HSC := Lib.hid (show err (tooLong x || tooLong sz) = sc by rw [hlx, Bool.false_or, hsc])
  have HCS := Lib.hid (show sc = codeOf 0 sz by rw [codeOf, if_pos rfl, hsc])
  have HX0 := Lib.hid hx0
  have HXS := Lib.hid (show (digs 2 x.natAbs).length ≤ 1000000 from Nat.le_trans (short_bits hlx) (by decide))
  have HK9 := Lib.hid (show kn ≤ 1000000 by omega)
  have hl0 : (((digs 2 x.natAbs).length : Int) == 0) = false := beq_eq_false_iff_ne.2 (fun e => hx0 (len_zero.1 (by omega)))
  have hk4 : decide ((4096 : Int) < kn) = false := decide_eq_false (by omega)
  have HNX := Lib.hid (bits_le hsa hna hx)
  have HNY := Lib.hid (bits_le hsb hnb hy)
  have HA := Lib.hid (And.intro hna hna)
  have HB := Lib.hid (And.intro hnb hnb)
  have HSA := Lib.hid (fun w1 (hb : Below w.heap.size w w1) => hsa.below hb (Nat.le_refl _))
  have HSB := Lib.hid (fun w1 (hb : Below w.heap.size w w1) => hsb.below hb (Nat.le_refl _))
  have he0 := (Ev.var (Ev.var (Ev.nil w) 24 (.bool na) (.slice Aa n_a ca)) 24 (.bool nb) (.slice Ab n_b cb))
  try simp only [World.size_alloc] at he0
  have HE0 : Hid (Ev w ((w.alloc (.cells #[.bool na, .slice Aa n_a ca] 24)).alloc (.cells #[.bool nb, .slice Ab n_b cb] 24)) [.var 24 (w.heap.size + 1) (.bool nb) (.slice Ab n_b cb), .var 24 w.heap.size (.bool na) (.slice Aa n_a ca)]) := Lib.hid he0
  clear he0
  clear hsa hsb hna hnb hx hy hg hpz hpc hsz hlx hly hx0 hkb hsc hkn
  go_enter Try.func10, Try.ntmps10
  go_upto_region 1 with fail
  generalize ((w.alloc (.cells #[.bool na, .slice Aa n_a ca] 24)).alloc (.cells #[.bool nb, .slice Ab n_b cb] 24)) = w1 at *
  go_wp2_with fail
  refine (awake_any _).mono ?_
  rintro ex w1' ⟨rfl, hb1⟩
  have HE1 : Hid (Ev w w1' [.var 24 (w.heap.size + 1) (.bool nb) (.slice Ab n_b cb), .var 24 w.heap.size (.bool na) (.slice Aa n_a ca)]) := Lib.hid (HE0.out.below hb1)
  clear hb1 
  go_upto_region 2 with fail
  obtain ⟨x2a, x2b, x2c, x2d⟩ := HE1.out.cells (.tail _ (.head _))
  go_wp2_with fail
  refine (Of_w ((HSA.out _ HE1.out.b).mono HE1.out.b.size) HA.out.2 HX.out).mono ?_
  rintro ex w3' ⟨v, rfl, ⟨A3, c3, rfl, ho3⟩, hb3⟩
  have HE3 : Hid (Ev w (w3'.alloc (.cells #[.bool (decide (x < 0)), .slice A3 ((digs 2 x.natAbs).length) c3] 28)) [.var 28 w3'.heap.size (.bool (decide (x < 0))) (.slice A3 ((digs 2 x.natAbs).length) c3), .own 3 A3 ((digs 2 x.natAbs).length) c3 (i64s (digs 2 x.natAbs)), .var 24 (w.heap.size + 1) (.bool nb) (.slice Ab n_b cb), .var 24 w.heap.size (.bool na) (.slice Aa n_a ca)]) := Lib.hid (Ev.var (Ev.own HE1.out hb3 ho3) 28 (.bool (decide (x < 0))) (.slice A3 ((digs 2 x.natAbs).length) c3))
  clear hb3 ho3 x2a x2b x2c x2d
  go_upto_region 3 with fail
  generalize (w3'.alloc (.cells #[.bool (decide (x < 0)), .slice A3 ((digs 2 x.natAbs).length) c3] 28)) = w3 at *
  generalize w3'.heap.size = g3 at *
  obtain ⟨x4a, x4b, x4c, x4d⟩ := HE3.out.cells (.tail _ (.tail _ (.head _)))
  go_wp2_with fail
  refine (Of_w ((HSB.out _ HE3.out.b).mono HE3.out.b.size) HB.out.2 HY.out).mono ?_
  rintro ex w5' ⟨v, rfl, ⟨A5, c5, rfl, ho5⟩, hb5⟩
  have HE5 : Hid (Ev w (w5'.alloc (.cells #[.bool (decide (y < 0)), .slice A5 ((digs 2 y.natAbs).length) c5] 28)) [.var 28 w5'.heap.size (.bool (decide (y < 0))) (.slice A5 ((digs 2 y.natAbs).length) c5), .own 3 A5 ((digs 2 y.natAbs).length) c5 (i64s (digs 2 y.natAbs)), .var 28 g3 (.bool (decide (x < 0))) (.slice A3 ((digs 2 x.natAbs).length) c3), .own 3 A3 ((digs 2 x.natAbs).length) c3 (i64s (digs 2 x.natAbs)), .var 24 (w.heap.size + 1) (.bool nb) (.slice Ab n_b cb), .var 24 w.heap.size (.bool na) (.slice Aa n_a ca)]) := Lib.hid (Ev.var (Ev.own HE3.out hb5 ho5) 28 (.bool (decide (y < 0))) (.slice A5 ((digs 2 y.natAbs).length) c5))
  clear hb5 ho5 x4a x4b x4c x4d
  go_upto_region 4 with fail
  generalize (w5'.alloc (.cells #[.bool (decide (y < 0)), .slice A5 ((digs 2 y.natAbs).length) c5] 28)) = w5 at *
  generalize w5'.heap.size = g5 at *
  obtain ⟨x6a, x6b, x6c, x6d⟩ := HE5.out.cells (.tail _ (.tail _ (.head _)))
  obtain ⟨x7a, x7b, x7c, x7d⟩ := HE5.out.cells (.head _)
  go_wp2_with fail
  refine (long_we (x := x) (y := y) HE.out _ _ _ _ _ _ _).mono ?_
  rintro ex w8' ⟨rfl, hb8⟩
  have HE8 : Hid (Ev w w8' [.var 28 g5 (.bool (decide (y < 0))) (.slice A5 ((digs 2 y.natAbs).length) c5), .own 3 A5 ((digs 2 y.natAbs).length) c5 (i64s (digs 2 y.natAbs)), .var 28 g3 (.bool (decide (x < 0))) (.slice A3 ((digs 2 x.natAbs).length) c3), .own 3 A3 ((digs 2 x.natAbs).length) c3 (i64s (digs 2 x.natAbs)), .var 24 (w.heap.size + 1) (.bool nb) (.slice Ab n_b cb), .var 24 w.heap.size (.bool na) (.slice Aa n_a ca)]) := Lib.hid (HE5.out.below hb8)
  clear hb8 x6a x6b x6c x6d x7a x7b x7c x7d
  go_upto_region 5 with fail
  obtain ⟨x9a, x9b, x9c, x9d⟩ := HE8.out.cells (.tail _ (.tail _ (.head _)))
  go_wp2_with fail
  refine (long_we (x := x) (y := x) HAL.out _ _ _ _ _ _ _).mono ?_
  rintro ex w10' ⟨rfl, hb10⟩
  have HE10 : Hid (Ev w w10' [.var 28 g5 (.bool (decide (y < 0))) (.slice A5 ((digs 2 y.natAbs).length) c5), .own 3 A5 ((digs 2 y.natAbs).length) c5 (i64s (digs 2 y.natAbs)), .var 28 g3 (.bool (decide (x < 0))) (.slice A3 ((digs 2 x.natAbs).length) c3), .own 3 A3 ((digs 2 x.natAbs).length) c3 (i64s (digs 2 x.natAbs)), .var 24 (w.heap.size + 1) (.bool nb) (.slice Ab n_b cb), .var 24 w.heap.size (.bool na) (.slice Aa n_a ca)]) := Lib.hid (HE8.out.below hb10)
  clear hb10 x9a x9b x9c x9d
  go_upto_region 6 with fail
  obtain ⟨x11a, x11b, x11c, x11d⟩ := HE10.out.cells (.tail _ (.tail _ (.tail _ (.tail _ (.tail _ (.head _))))))
  obtain ⟨x12a, x12b, x12c, x12d⟩ := HE10.out.cells (.tail _ (.tail _ (.tail _ (.tail _ (.head _)))))
  go_wp2_with fail
  refine (Gcd_w HE.out ((HSA.out _ HE10.out.b).mono HE10.out.b.size) ((HSB.out _ HE10.out.b).mono HE10.out.b.size) HA.out.2 HB.out.2 HX.out HY.out HGC.out).mono ?_
  rintro ex w13' ⟨neg13, A13, n13, c13, l13, rfl, ho13, hg13, hb13⟩
  have HG13 := Lib.hid hg13
  clear hg13
  have HE13 : Hid (Ev w (w13'.alloc (.cells #[.bool neg13, .slice A13 n13 c13] 24)) [.var 24 w13'.heap.size (.bool neg13) (.slice A13 n13 c13), .own 48 A13 n13 c13 (u32s l13), .var 28 g5 (.bool (decide (y < 0))) (.slice A5 ((digs 2 y.natAbs).length) c5), .own 3 A5 ((digs 2 y.natAbs).length) c5 (i64s (digs 2 y.natAbs)), .var 28 g3 (.bool (decide (x < 0))) (.slice A3 ((digs 2 x.natAbs).length) c3), .own 3 A3 ((digs 2 x.natAbs).length) c3 (i64s (digs 2 x.natAbs)), .var 24 (w.heap.size + 1) (.bool nb) (.slice Ab n_b cb), .var 24 w.heap.size (.bool na) (.slice Aa n_a ca)]) := Lib.hid (Ev.var (Ev.own HE10.out hb13 ho13) 24 (.bool neg13) (.slice A13 n13 c13))
  clear hb13 ho13 x11a x11b x11c x11d x12a x12b x12c x12d
  go_upto_region 7 with fail
  generalize (w13'.alloc (.cells #[.bool neg13, .slice A13 n13 c13] 24)) = w13 at *
  generalize w13'.heap.size = g13 at *
  obtain ⟨x14a, x14b, x14c, x14d⟩ := HE13.out.cells (.tail _ (.tail _ (.tail _ (.tail _ (.tail _ (.tail _ (.tail _ (.head _))))))))
  go_wp2_with fail
  refine (Pow_w (kn := kn) ((HSA.out _ HE13.out.b).mono HE13.out.b.size) HA.out.2 HX.out HP.out.1 HP.out.2).mono ?_
  rintro ex w15' ⟨neg15, A15, n15, c15, l15, rfl, ho15, hg15, hb15⟩
  have HG15 := Lib.hid hg15
  clear hg15
  have HE15 : Hid (Ev w (w15'.alloc (.cells #[.bool neg15, .slice A15 n15 c15] 24)) [.var 24 w15'.heap.size (.bool neg15) (.slice A15 n15 c15), .own 48 A15 n15 c15 (u32s l15), .var 24 g13 (.bool neg13) (.slice A13 n13 c13), .own 48 A13 n13 c13 (u32s l13), .var 28 g5 (.bool (decide (y < 0))) (.slice A5 ((digs 2 y.natAbs).length) c5), .own 3 A5 ((digs 2 y.natAbs).length) c5 (i64s (digs 2 y.natAbs)), .var 28 g3 (.bool (decide (x < 0))) (.slice A3 ((digs 2 x.natAbs).length) c3), .own 3 A3 ((digs 2 x.natAbs).length) c3 (i64s (digs 2 x.natAbs)), .var 24 (w.heap.size + 1) (.bool nb) (.slice Ab n_b cb), .var 24 w.heap.size (.bool na) (.slice Aa n_a ca)]) := Lib.hid (Ev.var (Ev.own HE13.out hb15 ho15) 24 (.bool neg15) (.slice A15 n15 c15))
  clear hb15 ho15 x14a x14b x14c x14d
  go_upto_region 8 with fail
  generalize (w15'.alloc (.cells #[.bool neg15, .slice A15 n15 c15] 24)) = w15 at *
  generalize w15'.heap.size = g15 at *
  obtain ⟨x16a, x16b, x16c, x16d⟩ := HE15.out.cells (.tail _ (.tail _ (.tail _ (.tail _ (.tail _ (.tail _ (.tail _ (.tail _ (.tail _ (.head _))))))))))
  go_wp2_with fail
  refine (Shift_w HKN.out.1 ((HSA.out _ HE15.out.b).mono HE15.out.b.size) HA.out.2 HX.out HSZ.out HSC.out).mono ?_
  rintro ex w17' ⟨neg17, A17, n17, c17, l17, rfl, ho17, hg17, hb17⟩
  have HG17 := Lib.hid hg17
  clear hg17
  have HE17 : Hid (Ev w (w17'.alloc (.cells #[.bool neg17, .slice A17 n17 c17] 24)) [.var 24 w17'.heap.size (.bool neg17) (.slice A17 n17 c17), .own 48 A17 n17 c17 (u32s l17), .var 24 g15 (.bool neg15) (.slice A15 n15 c15), .own 48 A15 n15 c15 (u32s l15), .var 24 g13 (.bool neg13) (.slice A13 n13 c13), .own 48 A13 n13 c13 (u32s l13), .var 28 g5 (.bool (decide (y < 0))) (.slice A5 ((digs 2 y.natAbs).length) c5), .own 3 A5 ((digs 2 y.natAbs).length) c5 (i64s (digs 2 y.natAbs)), .var 28 g3 (.bool (decide (x < 0))) (.slice A3 ((digs 2 x.natAbs).length) c3), .own 3 A3 ((digs 2 x.natAbs).length) c3 (i64s (digs 2 x.natAbs)), .var 24 (w.heap.size + 1) (.bool nb) (.slice Ab n_b cb), .var 24 w.heap.size (.bool na) (.slice Aa n_a ca)]) := Lib.hid (Ev.var (Ev.own HE15.out hb17 ho17) 24 (.bool neg17) (.slice A17 n17 c17))
  clear hb17 ho17 x16a x16b x16c x16d
  go_upto_region 9 with fail
  generalize (w17'.alloc (.cells #[.bool neg17, .slice A17 n17 c17] 24)) = w17 at *
  generalize w17'.heap.size = g17 at *
  go_upto_region 12 with fail
  obtain ⟨x18a, x18b, x18c, x18d⟩ := HE17.out.cells (.tail _ (.tail _ (.tail _ (.tail _ (.head _)))))
  obtain ⟨x19a, x19b, x19c, x19d⟩ := HE17.out.cells (.tail _ (.tail _ (.tail _ (.tail _ (.tail _ (.tail _ (.tail _ (.tail _ (.head _)))))))))
  go_wp2_with fail
  refine (is_b _ _ _ _ (Option.map Addr.block A13) HG13.out (by decide) rfl).mono ?_
  rintro ex w20' ⟨rfl, hg20⟩
  have HE20 : Hid (Ev w w20' [.var 24 g17 (.bool neg17) (.slice A17 n17 c17), .own 48 A17 n17 c17 (u32s l17), .var 24 g15 (.bool neg15) (.slice A15 n15 c15), .own 48 A15 n15 c15 (u32s l15), .var 24 g13 (.bool neg13) (.slice A13 n13 c13), .var 28 g5 (.bool (decide (y < 0))) (.slice A5 ((digs 2 y.natAbs).length) c5), .own 3 A5 ((digs 2 y.natAbs).length) c5 (i64s (digs 2 y.natAbs)), .var 28 g3 (.bool (decide (x < 0))) (.slice A3 ((digs 2 x.natAbs).length) c3), .own 3 A3 ((digs 2 x.natAbs).length) c3 (i64s (digs 2 x.natAbs)), .var 24 (w.heap.size + 1) (.bool nb) (.slice Ab n_b cb), .var 24 w.heap.size (.bool na) (.slice Aa n_a ca)]) := Lib.hid (Ev.spend [.var 24 g17 (.bool neg17) (.slice A17 n17 c17), .own 48 A17 n17 c17 (u32s l17), .var 24 g15 (.bool neg15) (.slice A15 n15 c15), .own 48 A15 n15 c15 (u32s l15), .var 24 g13 (.bool neg13) (.slice A13 n13 c13)] (.own 48 A13 n13 c13 (u32s l13)) [.var 28 g5 (.bool (decide (y < 0))) (.slice A5 ((digs 2 y.natAbs).length) c5), .own 3 A5 ((digs 2 y.natAbs).length) c5 (i64s (digs 2 y.natAbs)), .var 28 g3 (.bool (decide (x < 0))) (.slice A3 ((digs 2 x.natAbs).length) c3), .own 3 A3 ((digs 2 x.natAbs).length) c3 (i64s (digs 2 x.natAbs)), .var 24 (w.heap.size + 1) (.bool nb) (.slice Ab n_b cb), .var 24 w.heap.size (.bool na) (.slice Aa n_a ca)] HE17.out hg20)
  clear hg20 x18a x18b x18c x18d x19a x19b x19c x19d
  go_upto_region 13 with fail
  obtain ⟨x21a, x21b, x21c, x21d⟩ := HE20.out.cells (.tail _ (.tail _ (.tail _ (.tail _ (.tail _ (.tail _ (.tail _ (.head _))))))))
  obtain ⟨x22a, x22b, x22c, x22d⟩ := HE20.out.cells (.tail _ (.tail _ (.head _)))
  go_wp2_with fail
  refine (powered_any HKN.out.2 (bits_sl (HE20.out.has (.tail _ (.tail _ (.tail _ (.tail _ (.tail _ (.tail _ (.tail _ (.tail _ (.head _))))))))))) (HE20.out.has (.tail _ (.tail _ (.tail _ (.head _))))) HE20.out.b.size HG15.out HP.out.1 HP.out.2 HA1.out).mono ?_
  rintro ex w23' ⟨rfl, hg23⟩
  have HE23 : Hid (Ev w w23' [.var 24 g17 (.bool neg17) (.slice A17 n17 c17), .own 48 A17 n17 c17 (u32s l17), .var 24 g15 (.bool neg15) (.slice A15 n15 c15), .var 24 g13 (.bool neg13) (.slice A13 n13 c13), .var 28 g5 (.bool (decide (y < 0))) (.slice A5 ((digs 2 y.natAbs).length) c5), .own 3 A5 ((digs 2 y.natAbs).length) c5 (i64s (digs 2 y.natAbs)), .var 28 g3 (.bool (decide (x < 0))) (.slice A3 ((digs 2 x.natAbs).length) c3), .own 3 A3 ((digs 2 x.natAbs).length) c3 (i64s (digs 2 x.natAbs)), .var 24 (w.heap.size + 1) (.bool nb) (.slice Ab n_b cb), .var 24 w.heap.size (.bool na) (.slice Aa n_a ca)]) := Lib.hid (Ev.spend [.var 24 g17 (.bool neg17) (.slice A17 n17 c17), .own 48 A17 n17 c17 (u32s l17), .var 24 g15 (.bool neg15) (.slice A15 n15 c15)] (.own 48 A15 n15 c15 (u32s l15)) [.var 24 g13 (.bool neg13) (.slice A13 n13 c13), .var 28 g5 (.bool (decide (y < 0))) (.slice A5 ((digs 2 y.natAbs).length) c5), .own 3 A5 ((digs 2 y.natAbs).length) c5 (i64s (digs 2 y.natAbs)), .var 28 g3 (.bool (decide (x < 0))) (.slice A3 ((digs 2 x.natAbs).length) c3), .own 3 A3 ((digs 2 x.natAbs).length) c3 (i64s (digs 2 x.natAbs)), .var 24 (w.heap.size + 1) (.bool nb) (.slice Ab n_b cb), .var 24 w.heap.size (.bool na) (.slice Aa n_a ca)] HE20.out hg23)
  clear hg23 x21a x21b x21c x21d x22a x22b x22c x22d
  go_upto_region 14 with fail
  go_upto_region 14 with fail
  have HE24 : Hid (Ev w (w23'.alloc (.cells #[.bool false, .slice none 0 0] 28)) [.var 28 w23'.heap.size (.bool false) (.slice none 0 0), .var 24 g17 (.bool neg17) (.slice A17 n17 c17), .own 48 A17 n17 c17 (u32s l17), .var 24 g15 (.bool neg15) (.slice A15 n15 c15), .var 24 g13 (.bool neg13) (.slice A13 n13 c13), .var 28 g5 (.bool (decide (y < 0))) (.slice A5 ((digs 2 y.natAbs).length) c5), .own 3 A5 ((digs 2 y.natAbs).length) c5 (i64s (digs 2 y.natAbs)), .var 28 g3 (.bool (decide (x < 0))) (.slice A3 ((digs 2 x.natAbs).length) c3), .own 3 A3 ((digs 2 x.natAbs).length) c3 (i64s (digs 2 x.natAbs)), .var 24 (w.heap.size + 1) (.bool nb) (.slice Ab n_b cb), .var 24 w.heap.size (.bool na) (.slice Aa n_a ca)]) := Lib.hid (Ev.var HE23.out 28 (.bool false) (.slice none 0 0))
  go_upto_region 15 with fail
  generalize (w23'.alloc (.cells #[.bool false, .slice none 0 0] 28)) = w24 at *
  generalize w23'.heap.size = g24 at *
  obtain ⟨x25a, x25b, x25c, x25d⟩ := HE24.out.cells (.tail _ (.tail _ (.tail _ (.tail _ (.tail _ (.tail _ (.tail _ (.head _))))))))
  go_upto_region 16 with fail
  clear x25a x25b x25c x25d
  obtain ⟨x27a, x27b, x27c, x27d⟩ := HE24.out.cells (.tail _ (.tail _ (.tail _ (.tail _ (.tail _ (.tail _ (.tail _ (.head _))))))))
  obtain ⟨x28a, x28b, x28c, x28d⟩ := HE24.out.cells (.head _)
  go_wp2_with fail
  refine (rShift_any (bits_sl (HE24.out.has (.tail _ (.tail _ (.tail _ (.tail _ (.tail _ (.tail _ (.tail _ (.tail _ (.head _))))))))))) (Nat.le_refl _) (own_none (HE24.out.has (.tail _ (.tail _ (.tail _ (.tail _ (.tail _ (.tail _ (.tail _ (.tail _ (.head _))))))))))) HX0.out HXS.out kn HKN.out.1 HK9.out HSZ.out).mono ?_
  rintro ex w26' ⟨As26, cs26, rfl, hs26, hap26, hb26⟩
  obtain ⟨y26a, y26b, y26c, y26d⟩ := (HE24.out.below hb26).cells (.head _)
  have HE26 : Hid (Ev w ((w26'.setCell ⟨g24, 0, none⟩ (.bool (decide (sz < 0)))).setCell ⟨g24, 1, none⟩ (.slice As26 (digs 2 sz.natAbs).length cs26)) [.var 28 g24 (.bool (decide (sz < 0))) (.slice As26 ((digs 2 sz.natAbs).length) cs26), .var 24 g17 (.bool neg17) (.slice A17 n17 c17), .own 48 A17 n17 c17 (u32s l17), .var 24 g15 (.bool neg15) (.slice A15 n15 c15), .var 24 g13 (.bool neg13) (.slice A13 n13 c13), .var 28 g5 (.bool (decide (y < 0))) (.slice A5 ((digs 2 y.natAbs).length) c5), .own 3 A5 ((digs 2 y.natAbs).length) c5 (i64s (digs 2 y.natAbs)), .var 28 g3 (.bool (decide (x < 0))) (.slice A3 ((digs 2 x.natAbs).length) c3), .own 3 A3 ((digs 2 x.natAbs).length) c3 (i64s (digs 2 x.natAbs)), .var 24 (w.heap.size + 1) (.bool nb) (.slice Ab n_b cb), .var 24 w.heap.size (.bool na) (.slice Aa n_a ca)]) := Lib.hid (Ev.store [] [.var 24 g17 (.bool neg17) (.slice A17 n17 c17), .own 48 A17 n17 c17 (u32s l17), .var 24 g15 (.bool neg15) (.slice A15 n15 c15), .var 24 g13 (.bool neg13) (.slice A13 n13 c13), .var 28 g5 (.bool (decide (y < 0))) (.slice A5 ((digs 2 y.natAbs).length) c5), .own 3 A5 ((digs 2 y.natAbs).length) c5 (i64s (digs 2 y.natAbs)), .var 28 g3 (.bool (decide (x < 0))) (.slice A3 ((digs 2 x.natAbs).length) c3), .own 3 A3 ((digs 2 x.natAbs).length) c3 (i64s (digs 2 x.natAbs)), .var 24 (w.heap.size + 1) (.bool nb) (.slice Ab n_b cb), .var 24 w.heap.size (.bool na) (.slice Aa n_a ca)] (HE24.out.below hb26) (.bool (decide (sz < 0))) (.slice As26 (digs 2 sz.natAbs).length cs26))
  have hne26 : digs 2 sz.natAbs ≠ [] → ∀ b o, As26 = some ⟨b, o, none⟩ → b ≠ g24 := fun h b o e => by
    have hlt := (HE24.out.2.1 _ (.head _)).2 _ rfl
    rcases hap26 h b o e with ⟨o', h2⟩ | h2
    · exact ev_apart HE24.out (.tail _ (.tail _ (.tail _ (.tail _ (.tail _ (.tail _ (.tail _ (.tail _ (.head _))))))))) (.head _) h2
    · omega
  have HR26 := Lib.hid (sl_set2 hs26 hne26 (.bool (decide (sz < 0))) (.slice As26 (digs 2 sz.natAbs).length cs26))
  clear hs26 hap26 hb26 hne26 x27a x27b x27c x27d x28a x28b x28c x28d
  go_upto_region 20 with fail
  clear y26a y26b y26c y26d
  generalize ((w26'.setCell ⟨g24, 0, none⟩ (.bool (decide (sz < 0)))).setCell ⟨g24, 1, none⟩ (.slice As26 (digs 2 sz.natAbs).length cs26)) = w26 at *
  obtain ⟨x29a, x29b, x29c, x29d⟩ := HE26.out.cells (.tail _ (.head _))
  obtain ⟨x30a, x30b, x30c, x30d⟩ := HE26.out.cells (.head _)
  go_wp2_with fail
  refine (is_w (HE26.out.has (.tail _ (.tail _ (.head _)))) HE26.out.b.size HG17.out HR26.out (Nat.le_refl _) HCS.out).mono ?_
  rintro ex w31' ⟨rfl, hg31⟩
  have HE31 : Hid (Ev w w31' [.var 28 g24 (.bool (decide (sz < 0))) (.slice As26 ((digs 2 sz.natAbs).length) cs26), .var 24 g17 (.bool neg17) (.slice A17 n17 c17), .var 24 g15 (.bool neg15) (.slice A15 n15 c15), .var 24 g13 (.bool neg13) (.slice A13 n13 c13), .var 28 g5 (.bool (decide (y < 0))) (.slice A5 ((digs 2 y.natAbs).length) c5), .own 3 A5 ((digs 2 y.natAbs).length) c5 (i64s (digs 2 y.natAbs)), .var 28 g3 (.bool (decide (x < 0))) (.slice A3 ((digs 2 x.natAbs).length) c3), .own 3 A3 ((digs 2 x.natAbs).length) c3 (i64s (digs 2 x.natAbs)), .var 24 (w.heap.size + 1) (.bool nb) (.slice Ab n_b cb), .var 24 w.heap.size (.bool na) (.slice Aa n_a ca)]) := Lib.hid (Ev.spend [.var 28 g24 (.bool (decide (sz < 0))) (.slice As26 ((digs 2 sz.natAbs).length) cs26), .var 24 g17 (.bool neg17) (.slice A17 n17 c17)] (.own 48 A17 n17 c17 (u32s l17)) [.var 24 g15 (.bool neg15) (.slice A15 n15 c15), .var 24 g13 (.bool neg13) (.slice A13 n13 c13), .var 28 g5 (.bool (decide (y < 0))) (.slice A5 ((digs 2 y.natAbs).length) c5), .own 3 A5 ((digs 2 y.natAbs).length) c5 (i64s (digs 2 y.natAbs)), .var 28 g3 (.bool (decide (x < 0))) (.slice A3 ((digs 2 x.natAbs).length) c3), .own 3 A3 ((digs 2 x.natAbs).length) c3 (i64s (digs 2 x.natAbs)), .var 24 (w.heap.size + 1) (.bool nb) (.slice Ab n_b cb), .var 24 w.heap.size (.bool na) (.slice Aa n_a ca)] HE26.out hg31)
  clear hg31 x29a x29b x29c x29d x30a x30b x30c x30d
  go_upto_region 21 with fail
  go_wp2
  go_ret
  exact ⟨rfl, HE31.out.b⟩
set_option maxRecDepth 100000 in
set_option maxHeartbeats 16000000 in
theorem Powers_ss_t2 (na nb : Bool) (kn : Int) (hkn : -9223372036854775808 ≤ kn ∧ kn ≤ 9223372036854775807) {Aa Ab : Option Addr} {la lb : List Nat} {n_a ca n_b cb : Nat} {w : World} {x y : Int} (hx : ival na la = x) (hy : ival nb lb = y) (hsa : SlU w w.heap.size Aa n_a ca la) (hsb : SlU w w.heap.size Ab n_b cb lb) (hna : n_a ≤ 1048576) (hnb : n_b ≤ 1048576) (hlx : tooLong x = false) (hly : tooLong y = false) (hx0 : x = 0) :
    Calls Try.prog 10 #[.agg #[.bool na, .slice Aa n_a ca], .agg #[.bool nb, .slice Ab n_b cb], .int .i64 kn] w fun e w' => e = .returned (.bool true) ∧ Below w.heap.size w w' := by
  have HX := Lib.hid hx
  have HY := Lib.hid hy
  have HKN := Lib.hid hkn
  obtain ⟨g, hg⟩ : ∃ g, Nat.gcd x.natAbs y.natAbs = g := ⟨_, rfl⟩
  have HGC := Lib.hid hg
  obtain ⟨pz, hpz⟩ : ∃ z, x ^ kn.toNat = z := ⟨_, rfl⟩
  obtain ⟨pc, hpc⟩ : ∃ c, pwCode (tooLong x) x kn = c := ⟨_, rfl⟩
  have HP := Lib.hid (And.intro hpz hpc)
  obtain ⟨sz, hsz⟩ : ∃ z, shZ x kn = z := ⟨_, rfl⟩
  have HSZ := Lib.hid hsz
  have HE := Lib.hid (show err (tooLong x || tooLong y) = 0 by rw [hlx, hly]; rfl)
  have HAL := Lib.hid (show err (tooLong x || tooLong x) = 0 by rw [hlx]; rfl)
  have HA1 := Lib.hid (show err (tooLong x) = 0 by rw [hlx]; rfl)
  have HCG := Lib.hid (show (0 : Int) = codeOf 0 (g : Int) by rw [codeOf, if_pos rfl, ← hg, gcd_short hlx hly]; rfl)
  have HS0 := Lib.hid (show sz = 0 by rw [← hsz, hx0, shZ_nought])
  have HSC := Lib.hid (show err (tooLong x || tooLong sz) = 0 by rw [hlx, HS0.out, show tooLong 0 = false by simp [tooLong, blen_zero]]; rfl)
  have hl0 : (((digs 2 x.natAbs).length : Int) == 0) = true := by rw [len_zero.2 hx0]; rfl
  have HNX := Lib.hid (bits_le hsa hna hx)
  have HNY := Lib.hid (bits_le hsb hnb hy)
  have HA := Lib.hid (And.intro hna hna)
  have HB := Lib.hid (And.intro hnb hnb)
  have HSA := Lib.hid (fun w1 (hb : Below w.heap.size w w1) => hsa.below hb (Nat.le_refl _))
  have HSB := Lib.hid (fun w1 (hb : Below w.heap.size w w1) => hsb.below hb (Nat.le_refl _))
  have he0 := (Ev.var (Ev.var (Ev.nil w) 24 (.bool na) (.slice Aa n_a ca)) 24 (.bool nb) (.slice Ab n_b cb))
  try simp only [World.size_alloc] at he0
  have HE0 : Hid (Ev w ((w.alloc (.cells #[.bool na, .slice Aa n_a ca] 24)).alloc (.cells #[.bool nb, .slice Ab n_b cb] 24)) [.var 24 (w.heap.size + 1) (.bool nb) (.slice Ab n_b cb), .var 24 w.heap.size (.bool na) (.slice Aa n_a ca)]) := Lib.hid he0
  clear he0
  clear hsa hsb hna hnb hx hy hg hpz hpc hsz hlx hly hx0 hkn
  go_enter Try.func10, Try.ntmps10
  go_upto_region 1 with fail
  generalize ((w.alloc (.cells #[.bool na, .slice Aa n_a ca] 24)).alloc (.cells #[.bool nb, .slice Ab n_b cb] 24)) = w1 at *
  go_wp2_with fail
  refine (awake_any _).mono ?_
  rintro ex w1' ⟨rfl, hb1⟩
  have HE1 : Hid (Ev w w1' [.var 24 (w.heap.size + 1) (.bool nb) (.slice Ab n_b cb), .var 24 w.heap.size (.bool na) (.slice Aa n_a ca)]) := Lib.hid (HE0.out.below hb1)
  clear hb1 
  go_upto_region 2 with fail
  obtain ⟨x2a, x2b, x2c, x2d⟩ := HE1.out.cells (.tail _ (.head _))
  go_wp2_with fail
  refine (Of_w ((HSA.out _ HE1.out.b).mono HE1.out.b.size) HA.out.2 HX.out).mono ?_
  rintro ex w3' ⟨v, rfl, ⟨A3, c3, rfl, ho3⟩, hb3⟩
  have HE3 : Hid (Ev w (w3'.alloc (.cells #[.bool (decide (x < 0)), .slice A3 ((digs 2 x.natAbs).length) c3] 28)) [.var 28 w3'.heap.size (.bool (decide (x < 0))) (.slice A3 ((digs 2 x.natAbs).length) c3), .own 3 A3 ((digs 2 x.natAbs).length) c3 (i64s (digs 2 x.natAbs)), .var 24 (w.heap.size + 1) (.bool nb) (.slice Ab n_b cb), .var 24 w.heap.size (.bool na) (.slice Aa n_a ca)]) := Lib.hid (Ev.var (Ev.own HE1.out hb3 ho3) 28 (.bool (decide (x < 0))) (.slice A3 ((digs 2 x.natAbs).length) c3))
  clear hb3 ho3 x2a x2b x2c x2d
  go_upto_region 3 with fail
  generalize (w3'.alloc (.cells #[.bool (decide (x < 0)), .slice A3 ((digs 2 x.natAbs).length) c3] 28)) = w3 at *
  generalize w3'.heap.size = g3 at *
  obtain ⟨x4a, x4b, x4c, x4d⟩ := HE3.out.cells (.tail _ (.tail _ (.head _)))
  go_wp2_with fail
  refine (Of_w ((HSB.out _ HE3.out.b).mono HE3.out.b.size) HB.out.2 HY.out).mono ?_
  rintro ex w5' ⟨v, rfl, ⟨A5, c5, rfl, ho5⟩, hb5⟩
  have HE5 : Hid (Ev w (w5'.alloc (.cells #[.bool (decide (y < 0)), .slice A5 ((digs 2 y.natAbs).length) c5] 28)) [.var 28 w5'.heap.size (.bool (decide (y < 0))) (.slice A5 ((digs 2 y.natAbs).length) c5), .own 3 A5 ((digs 2 y.natAbs).length) c5 (i64s (digs 2 y.natAbs)), .var 28 g3 (.bool (decide (x < 0))) (.slice A3 ((digs 2 x.natAbs).length) c3), .own 3 A3 ((digs 2 x.natAbs).length) c3 (i64s (digs 2 x.natAbs)), .var 24 (w.heap.size + 1) (.bool nb) (.slice Ab n_b cb), .var 24 w.heap.size (.bool na) (.slice Aa n_a ca)]) := Lib.hid (Ev.var (Ev.own HE3.out hb5 ho5) 28 (.bool (decide (y < 0))) (.slice A5 ((digs 2 y.natAbs).length) c5))
  clear hb5 ho5 x4a x4b x4c x4d
  go_upto_region 4 with fail
  generalize (w5'.alloc (.cells #[.bool (decide (y < 0)), .slice A5 ((digs 2 y.natAbs).length) c5] 28)) = w5 at *
  generalize w5'.heap.size = g5 at *
  obtain ⟨x6a, x6b, x6c, x6d⟩ := HE5.out.cells (.tail _ (.tail _ (.head _)))
  obtain ⟨x7a, x7b, x7c, x7d⟩ := HE5.out.cells (.head _)
  go_wp2_with fail
  refine (long_we (x := x) (y := y) HE.out _ _ _ _ _ _ _).mono ?_
  rintro ex w8' ⟨rfl, hb8⟩
  have HE8 : Hid (Ev w w8' [.var 28 g5 (.bool (decide (y < 0))) (.slice A5 ((digs 2 y.natAbs).length) c5), .own 3 A5 ((digs 2 y.natAbs).length) c5 (i64s (digs 2 y.natAbs)), .var 28 g3 (.bool (decide (x < 0))) (.slice A3 ((digs 2 x.natAbs).length) c3), .own 3 A3 ((digs 2 x.natAbs).length) c3 (i64s (digs 2 x.natAbs)), .var 24 (w.heap.size + 1) (.bool nb) (.slice Ab n_b cb), .var 24 w.heap.size (.bool na) (.slice Aa n_a ca)]) := Lib.hid (HE5.out.below hb8)
  clear hb8 x6a x6b x6c x6d x7a x7b x7c x7d
  go_upto_region 5 with fail
  obtain ⟨x9a, x9b, x9c, x9d⟩ := HE8.out.cells (.tail _ (.tail _ (.head _)))
  go_wp2_with fail
  refine (long_we (x := x) (y := x) HAL.out _ _ _ _ _ _ _).mono ?_
  rintro ex w10' ⟨rfl, hb10⟩
  have HE10 : Hid (Ev w w10' [.var 28 g5 (.bool (decide (y < 0))) (.slice A5 ((digs 2 y.natAbs).length) c5), .own 3 A5 ((digs 2 y.natAbs).length) c5 (i64s (digs 2 y.natAbs)), .var 28 g3 (.bool (decide (x < 0))) (.slice A3 ((digs 2 x.natAbs).length) c3), .own 3 A3 ((digs 2 x.natAbs).length) c3 (i64s (digs 2 x.natAbs)), .var 24 (w.heap.size + 1) (.bool nb) (.slice Ab n_b cb), .var 24 w.heap.size (.bool na) (.slice Aa n_a ca)]) := Lib.hid (HE8.out.below hb10)
  clear hb10 x9a x9b x9c x9d
  go_upto_region 6 with fail
  obtain ⟨x11a, x11b, x11c, x11d⟩ := HE10.out.cells (.tail _ (.tail _ (.tail _ (.tail _ (.tail _ (.head _))))))
  obtain ⟨x12a, x12b, x12c, x12d⟩ := HE10.out.cells (.tail _ (.tail _ (.tail _ (.tail _ (.head _)))))
  go_wp2_with fail
  refine (Gcd_w HE.out ((HSA.out _ HE10.out.b).mono HE10.out.b.size) ((HSB.out _ HE10.out.b).mono HE10.out.b.size) HA.out.2 HB.out.2 HX.out HY.out HGC.out).mono ?_
  rintro ex w13' ⟨neg13, A13, n13, c13, l13, rfl, ho13, hg13, hb13⟩
  have HG13 := Lib.hid hg13
  clear hg13
  have HE13 : Hid (Ev w (w13'.alloc (.cells #[.bool neg13, .slice A13 n13 c13] 24)) [.var 24 w13'.heap.size (.bool neg13) (.slice A13 n13 c13), .own 48 A13 n13 c13 (u32s l13), .var 28 g5 (.bool (decide (y < 0))) (.slice A5 ((digs 2 y.natAbs).length) c5), .own 3 A5 ((digs 2 y.natAbs).length) c5 (i64s (digs 2 y.natAbs)), .var 28 g3 (.bool (decide (x < 0))) (.slice A3 ((digs 2 x.natAbs).length) c3), .own 3 A3 ((digs 2 x.natAbs).length) c3 (i64s (digs 2 x.natAbs)), .var 24 (w.heap.size + 1) (.bool nb) (.slice Ab n_b cb), .var 24 w.heap.size (.bool na) (.slice Aa n_a ca)]) := Lib.hid (Ev.var (Ev.own HE10.out hb13 ho13) 24 (.bool neg13) (.slice A13 n13 c13))
  clear hb13 ho13 x11a x11b x11c x11d x12a x12b x12c x12d
  go_upto_region 7 with fail
  generalize (w13'.alloc (.cells #[.bool neg13, .slice A13 n13 c13] 24)) = w13 at *
  generalize w13'.heap.size = g13 at *
  obtain ⟨x14a, x14b, x14c, x14d⟩ := HE13.out.cells (.tail _ (.tail _ (.tail _ (.tail _ (.tail _ (.tail _ (.tail _ (.head _))))))))
  go_wp2_with fail
  refine (Pow_w (kn := kn) ((HSA.out _ HE13.out.b).mono HE13.out.b.size) HA.out.2 HX.out HP.out.1 HP.out.2).mono ?_
  rintro ex w15' ⟨neg15, A15, n15, c15, l15, rfl, ho15, hg15, hb15⟩
  have HG15 := Lib.hid hg15
  clear hg15
  have HE15 : Hid (Ev w (w15'.alloc (.cells #[.bool neg15, .slice A15 n15 c15] 24)) [.var 24 w15'.heap.size (.bool neg15) (.slice A15 n15 c15), .own 48 A15 n15 c15 (u32s l15), .var 24 g13 (.bool neg13) (.slice A13 n13 c13), .own 48 A13 n13 c13 (u32s l13), .var 28 g5 (.bool (decide (y < 0))) (.slice A5 ((digs 2 y.natAbs).length) c5), .own 3 A5 ((digs 2 y.natAbs).length) c5 (i64s (digs 2 y.natAbs)), .var 28 g3 (.bool (decide (x < 0))) (.slice A3 ((digs 2 x.natAbs).length) c3), .own 3 A3 ((digs 2 x.natAbs).length) c3 (i64s (digs 2 x.natAbs)), .var 24 (w.heap.size + 1) (.bool nb) (.slice Ab n_b cb), .var 24 w.heap.size (.bool na) (.slice Aa n_a ca)]) := Lib.hid (Ev.var (Ev.own HE13.out hb15 ho15) 24 (.bool neg15) (.slice A15 n15 c15))
  clear hb15 ho15 x14a x14b x14c x14d
  go_upto_region 8 with fail
  generalize (w15'.alloc (.cells #[.bool neg15, .slice A15 n15 c15] 24)) = w15 at *
  generalize w15'.heap.size = g15 at *
  obtain ⟨x16a, x16b, x16c, x16d⟩ := HE15.out.cells (.tail _ (.tail _ (.tail _ (.tail _ (.tail _ (.tail _ (.tail _ (.tail _ (.tail _ (.head _))))))))))
  go_wp2_with fail
  refine (Shift_w HKN.out.1 ((HSA.out _ HE15.out.b).mono HE15.out.b.size) HA.out.2 HX.out HSZ.out HSC.out).mono ?_
  rintro ex w17' ⟨neg17, A17, n17, c17, l17, rfl, ho17, hg17, hb17⟩
  have HG17 := Lib.hid hg17
  clear hg17
  have HE17 : Hid (Ev w (w17'.alloc (.cells #[.bool neg17, .slice A17 n17 c17] 24)) [.var 24 w17'.heap.size (.bool neg17) (.slice A17 n17 c17), .own 48 A17 n17 c17 (u32s l17), .var 24 g15 (.bool neg15) (.slice A15 n15 c15), .own 48 A15 n15 c15 (u32s l15), .var 24 g13 (.bool neg13) (.slice A13 n13 c13), .own 48 A13 n13 c13 (u32s l13), .var 28 g5 (.bool (decide (y < 0))) (.slice A5 ((digs 2 y.natAbs).length) c5), .own 3 A5 ((digs 2 y.natAbs).length) c5 (i64s (digs 2 y.natAbs)), .var 28 g3 (.bool (decide (x < 0))) (.slice A3 ((digs 2 x.natAbs).length) c3), .own 3 A3 ((digs 2 x.natAbs).length) c3 (i64s (digs 2 x.natAbs)), .var 24 (w.heap.size + 1) (.bool nb) (.slice Ab n_b cb), .var 24 w.heap.size (.bool na) (.slice Aa n_a ca)]) := Lib.hid (Ev.var (Ev.own HE15.out hb17 ho17) 24 (.bool neg17) (.slice A17 n17 c17))
  clear hb17 ho17 x16a x16b x16c x16d
  go_upto_region 9 with fail
  generalize (w17'.alloc (.cells #[.bool neg17, .slice A17 n17 c17] 24)) = w17 at *
  generalize w17'.heap.size = g17 at *
  go_upto_region 11 with fail
  have HS18 := Lib.hid (fun (w' : World) (ts' : List Th) (he' : Ev w w' ts') (m0 : Th.var 24 g13 (.bool neg13) (.slice A13 n13 c13) ∈ ts') (m1 : Th.var 28 g3 (.bool (decide (x < 0))) (.slice A3 ((digs 2 x.natAbs).length) c3) ∈ ts') (m2 : Th.var 28 g5 (.bool (decide (y < 0))) (.slice A5 ((digs 2 y.natAbs).length) c5) ∈ ts') => show (w'.cell? ⟨g13, 0, none⟩ = some (.bool neg13) ∧ w'.cell? ⟨g13, 1, none⟩ = some (.slice A13 n13 c13)) ∧ (w'.cell? ⟨g3, 0, none⟩ = some (.bool (decide (x < 0))) ∧ w'.cell? ⟨g3, 1, none⟩ = some (.slice A3 ((digs 2 x.natAbs).length) c3)) ∧ (w'.cell? ⟨g5, 0, none⟩ = some (.bool (decide (y < 0))) ∧ w'.cell? ⟨g5, 1, none⟩ = some (.slice A5 ((digs 2 y.natAbs).length) c5)) from And.intro (And.intro (he'.cells m0).1 (he'.cells m0).2.1) (And.intro (And.intro (he'.cells m1).1 (he'.cells m1).2.1) (And.intro (he'.cells m2).1 (he'.cells m2).2.1)))
  have k18_0 : Ev w w17.drew [.var 24 g17 (.bool neg17) (.slice A17 n17 c17), .own 48 A17 n17 c17 (u32s l17), .var 24 g15 (.bool neg15) (.slice A15 n15 c15), .own 48 A15 n15 c15 (u32s l15), .var 24 g13 (.bool neg13) (.slice A13 n13 c13), .own 48 A13 n13 c13 (u32s l13), .var 28 g5 (.bool (decide (y < 0))) (.slice A5 ((digs 2 y.natAbs).length) c5), .own 3 A5 ((digs 2 y.natAbs).length) c5 (i64s (digs 2 y.natAbs)), .var 28 g3 (.bool (decide (x < 0))) (.slice A3 ((digs 2 x.natAbs).length) c3), .own 3 A3 ((digs 2 x.natAbs).length) c3 (i64s (digs 2 x.natAbs)), .var 24 (w.heap.size + 1) (.bool nb) (.slice Ab n_b cb), .var 24 w.heap.size (.bool na) (.slice Aa n_a ca)] := HE17.out.below (Below.refl w17.heap.size w17).drew
  obtain ⟨x19a, x19b, x19c, x19d⟩ := HE17.out.cells (.tail _ (.tail _ (.tail _ (.tail _ (.head _)))))
  obtain ⟨x20a, x20b, x20c, x20d⟩ := HE17.out.cells (.tail _ (.tail _ (.tail _ (.tail _ (.tail _ (.tail _ (.tail _ (.tail _ (.head _)))))))))
  obtain ⟨x21a, x21b, x21c, x21d⟩ := HE17.out.cells (.tail _ (.tail _ (.tail _ (.tail _ (.tail _ (.tail _ (.head _)))))))
  go_region_held3 (fun w' => (w'.cell? ⟨g13, 0, none⟩ = some (.bool neg13) ∧ w'.cell? ⟨g13, 1, none⟩ = some (.slice A13 n13 c13)) ∧ (w'.cell? ⟨g3, 0, none⟩ = some (.bool (decide (x < 0))) ∧ w'.cell? ⟨g3, 1, none⟩ = some (.slice A3 ((digs 2 x.natAbs).length) c3)) ∧ (w'.cell? ⟨g5, 0, none⟩ = some (.bool (decide (y < 0))) ∧ w'.cell? ⟨g5, 1, none⟩ = some (.slice A5 ((digs 2 y.natAbs).length) c5)))
    (first | (go_keep; done) | exact HS18.out _ _ k18_2 (.tail _ (.tail _ (.tail _ (.tail _ (.head _))))) (.tail _ (.tail _ (.tail _ (.tail _ (.tail _ (.tail _ (.tail _ (.head _)))))))) (.tail _ (.tail _ (.tail _ (.tail _ (.tail _ (.head _)))))) | exact HS18.out _ _ k18_1 (.tail _ (.tail _ (.tail _ (.tail _ (.head _))))) (.tail _ (.tail _ (.tail _ (.tail _ (.tail _ (.tail _ (.tail _ (.tail _ (.head _))))))))) (.tail _ (.tail _ (.tail _ (.tail _ (.tail _ (.tail _ (.head _))))))) | exact HS18.out _ _ k18_0 (.tail _ (.tail _ (.tail _ (.tail _ (.head _))))) (.tail _ (.tail _ (.tail _ (.tail _ (.tail _ (.tail _ (.tail _ (.tail _ (.head _))))))))) (.tail _ (.tail _ (.tail _ (.tail _ (.tail _ (.tail _ (.head _))))))))
    (first
      | (go_at_call 56; (refine (rGcd_any (bits_sl (k18_0.has (.tail _ (.tail _ (.tail _ (.tail _ (.tail _ (.tail _ (.tail _ (.tail _ (.tail _ (.head _)))))))))))) (bits_sl (k18_0.has (.tail _ (.tail _ (.tail _ (.tail _ (.tail _ (.tail _ (.tail _ (.head _)))))))))) (Nat.le_refl _) (Nat.le_refl _) HNX.out HNY.out HGC.out).mono ?_); rintro e y18_0 ⟨Ag18, cg18, rfl, hs18, hb18⟩; have k18_1 : Ev w y18_0 [.var 24 g17 (.bool neg17) (.slice A17 n17 c17), .own 48 A17 n17 c17 (u32s l17), .var 24 g15 (.bool neg15) (.slice A15 n15 c15), .own 48 A15 n15 c15 (u32s l15), .var 24 g13 (.bool neg13) (.slice A13 n13 c13), .own 48 A13 n13 c13 (u32s l13), .var 28 g5 (.bool (decide (y < 0))) (.slice A5 ((digs 2 y.natAbs).length) c5), .own 3 A5 ((digs 2 y.natAbs).length) c5 (i64s (digs 2 y.natAbs)), .var 28 g3 (.bool (decide (x < 0))) (.slice A3 ((digs 2 x.natAbs).length) c3), .own 3 A3 ((digs 2 x.natAbs).length) c3 (i64s (digs 2 x.natAbs)), .var 24 (w.heap.size + 1) (.bool nb) (.slice Ab n_b cb), .var 24 w.heap.size (.bool na) (.slice Aa n_a ca)] := k18_0.below hb18; clear hb18)
      | (go_at_call 25; (refine (is_w (k18_1.has (.tail _ (.tail _ (.tail _ (.tail _ (.tail _ (.head _))))))) k18_1.b.size HG13.out hs18 (Nat.le_refl _) HCG.out).mono ?_); rintro e y18_1 ⟨rfl, hg18⟩; have k18_2 : Ev w y18_1 [.var 24 g17 (.bool neg17) (.slice A17 n17 c17), .own 48 A17 n17 c17 (u32s l17), .var 24 g15 (.bool neg15) (.slice A15 n15 c15), .own 48 A15 n15 c15 (u32s l15), .var 24 g13 (.bool neg13) (.slice A13 n13 c13), .var 28 g5 (.bool (decide (y < 0))) (.slice A5 ((digs 2 y.natAbs).length) c5), .own 3 A5 ((digs 2 y.natAbs).length) c5 (i64s (digs 2 y.natAbs)), .var 28 g3 (.bool (decide (x < 0))) (.slice A3 ((digs 2 x.natAbs).length) c3), .own 3 A3 ((digs 2 x.natAbs).length) c3 (i64s (digs 2 x.natAbs)), .var 24 (w.heap.size + 1) (.bool nb) (.slice Ab n_b cb), .var 24 w.heap.size (.bool na) (.slice Aa n_a ca)] := Ev.spend [.var 24 g17 (.bool neg17) (.slice A17 n17 c17), .own 48 A17 n17 c17 (u32s l17), .var 24 g15 (.bool neg15) (.slice A15 n15 c15), .own 48 A15 n15 c15 (u32s l15), .var 24 g13 (.bool neg13) (.slice A13 n13 c13)] (.own 48 A13 n13 c13 (u32s l13)) [.var 28 g5 (.bool (decide (y < 0))) (.slice A5 ((digs 2 y.natAbs).length) c5), .own 3 A5 ((digs 2 y.natAbs).length) c5 (i64s (digs 2 y.natAbs)), .var 28 g3 (.bool (decide (x < 0))) (.slice A3 ((digs 2 x.natAbs).length) c3), .own 3 A3 ((digs 2 x.natAbs).length) c3 (i64s (digs 2 x.natAbs)), .var 24 (w.heap.size + 1) (.bool nb) (.slice Ab n_b cb), .var 24 w.heap.size (.bool na) (.slice Aa n_a ca)] k18_1 hg18; clear hg18))
  have HE18 : Hid (Ev w y18_1 [.var 24 g17 (.bool neg17) (.slice A17 n17 c17), .own 48 A17 n17 c17 (u32s l17), .var 24 g15 (.bool neg15) (.slice A15 n15 c15), .own 48 A15 n15 c15 (u32s l15), .var 24 g13 (.bool neg13) (.slice A13 n13 c13), .var 28 g5 (.bool (decide (y < 0))) (.slice A5 ((digs 2 y.natAbs).length) c5), .own 3 A5 ((digs 2 y.natAbs).length) c5 (i64s (digs 2 y.natAbs)), .var 28 g3 (.bool (decide (x < 0))) (.slice A3 ((digs 2 x.natAbs).length) c3), .own 3 A3 ((digs 2 x.natAbs).length) c3 (i64s (digs 2 x.natAbs)), .var 24 (w.heap.size + 1) (.bool nb) (.slice Ab n_b cb), .var 24 w.heap.size (.bool na) (.slice Aa n_a ca)]) := Lib.hid k18_2
  clear k18_0 k18_1 k18_2 hs18 x19a x19b x19c x19d x20a x20b x20c x20d x21a x21b x21c x21d HS18
  go_upto_region 13 with fail
  obtain ⟨x22a, x22b, x22c, x22d⟩ := HE18.out.cells (.tail _ (.tail _ (.tail _ (.tail _ (.tail _ (.tail _ (.tail _ (.head _))))))))
  obtain ⟨x23a, x23b, x23c, x23d⟩ := HE18.out.cells (.tail _ (.tail _ (.head _)))
  go_wp2_with fail
  refine (powered_any HKN.out.2 (bits_sl (HE18.out.has (.tail _ (.tail _ (.tail _ (.tail _ (.tail _ (.tail _ (.tail _ (.tail _ (.head _))))))))))) (HE18.out.has (.tail _ (.tail _ (.tail _ (.head _))))) HE18.out.b.size HG15.out HP.out.1 HP.out.2 HA1.out).mono ?_
  rintro ex w24' ⟨rfl, hg24⟩
  have HE24 : Hid (Ev w w24' [.var 24 g17 (.bool neg17) (.slice A17 n17 c17), .own 48 A17 n17 c17 (u32s l17), .var 24 g15 (.bool neg15) (.slice A15 n15 c15), .var 24 g13 (.bool neg13) (.slice A13 n13 c13), .var 28 g5 (.bool (decide (y < 0))) (.slice A5 ((digs 2 y.natAbs).length) c5), .own 3 A5 ((digs 2 y.natAbs).length) c5 (i64s (digs 2 y.natAbs)), .var 28 g3 (.bool (decide (x < 0))) (.slice A3 ((digs 2 x.natAbs).length) c3), .own 3 A3 ((digs 2 x.natAbs).length) c3 (i64s (digs 2 x.natAbs)), .var 24 (w.heap.size + 1) (.bool nb) (.slice Ab n_b cb), .var 24 w.heap.size (.bool na) (.slice Aa n_a ca)]) := Lib.hid (Ev.spend [.var 24 g17 (.bool neg17) (.slice A17 n17 c17), .own 48 A17 n17 c17 (u32s l17), .var 24 g15 (.bool neg15) (.slice A15 n15 c15)] (.own 48 A15 n15 c15 (u32s l15)) [.var 24 g13 (.bool neg13) (.slice A13 n13 c13), .var 28 g5 (.bool (decide (y < 0))) (.slice A5 ((digs 2 y.natAbs).length) c5), .own 3 A5 ((digs 2 y.natAbs).length) c5 (i64s (digs 2 y.natAbs)), .var 28 g3 (.bool (decide (x < 0))) (.slice A3 ((digs 2 x.natAbs).length) c3), .own 3 A3 ((digs 2 x.natAbs).length) c3 (i64s (digs 2 x.natAbs)), .var 24 (w.heap.size + 1) (.bool nb) (.slice Ab n_b cb), .var 24 w.heap.size (.bool na) (.slice Aa n_a ca)] HE18.out hg24)
  clear hg24 x22a x22b x22c x22d x23a x23b x23c x23d
  go_upto_region 14 with fail
  go_upto_region 14 with fail
  have HE25 : Hid (Ev w (w24'.alloc (.cells #[.bool false, .slice none 0 0] 28)) [.var 28 w24'.heap.size (.bool false) (.slice none 0 0), .var 24 g17 (.bool neg17) (.slice A17 n17 c17), .own 48 A17 n17 c17 (u32s l17), .var 24 g15 (.bool neg15) (.slice A15 n15 c15), .var 24 g13 (.bool neg13) (.slice A13 n13 c13), .var 28 g5 (.bool (decide (y < 0))) (.slice A5 ((digs 2 y.natAbs).length) c5), .own 3 A5 ((digs 2 y.natAbs).length) c5 (i64s (digs 2 y.natAbs)), .var 28 g3 (.bool (decide (x < 0))) (.slice A3 ((digs 2 x.natAbs).length) c3), .own 3 A3 ((digs 2 x.natAbs).length) c3 (i64s (digs 2 x.natAbs)), .var 24 (w.heap.size + 1) (.bool nb) (.slice Ab n_b cb), .var 24 w.heap.size (.bool na) (.slice Aa n_a ca)]) := Lib.hid (Ev.var HE24.out 28 (.bool false) (.slice none 0 0))
  go_upto_region 15 with fail
  generalize (w24'.alloc (.cells #[.bool false, .slice none 0 0] 28)) = w25 at *
  generalize w24'.heap.size = g25 at *
  obtain ⟨x26a, x26b, x26c, x26d⟩ := HE25.out.cells (.tail _ (.tail _ (.tail _ (.tail _ (.tail _ (.tail _ (.tail _ (.head _))))))))
  go_upto_region 20 with fail
  clear x26a x26b x26c x26d
  obtain ⟨x27a, x27b, x27c, x27d⟩ := HE25.out.cells (.tail _ (.head _))
  obtain ⟨x28a, x28b, x28c, x28d⟩ := HE25.out.cells (.head _)
  go_wp2_with fail
  refine (is_0 (HE25.out.has (.tail _ (.tail _ (.head _)))) HE25.out.b.size HG17.out HS0.out rfl).mono ?_
  rintro ex w29' ⟨rfl, hg29⟩
  have HE29 : Hid (Ev w w29' [.var 28 g25 (.bool false) (.slice none 0 0), .var 24 g17 (.bool neg17) (.slice A17 n17 c17), .var 24 g15 (.bool neg15) (.slice A15 n15 c15), .var 24 g13 (.bool neg13) (.slice A13 n13 c13), .var 28 g5 (.bool (decide (y < 0))) (.slice A5 ((digs 2 y.natAbs).length) c5), .own 3 A5 ((digs 2 y.natAbs).length) c5 (i64s (digs 2 y.natAbs)), .var 28 g3 (.bool (decide (x < 0))) (.slice A3 ((digs 2 x.natAbs).length) c3), .own 3 A3 ((digs 2 x.natAbs).length) c3 (i64s (digs 2 x.natAbs)), .var 24 (w.heap.size + 1) (.bool nb) (.slice Ab n_b cb), .var 24 w.heap.size (.bool na) (.slice Aa n_a ca)]) := Lib.hid (Ev.spend [.var 28 g25 (.bool false) (.slice none 0 0), .var 24 g17 (.bool neg17) (.slice A17 n17 c17)] (.own 48 A17 n17 c17 (u32s l17)) [.var 24 g15 (.bool neg15) (.slice A15 n15 c15), .var 24 g13 (.bool neg13) (.slice A13 n13 c13), .var 28 g5 (.bool (decide (y < 0))) (.slice A5 ((digs 2 y.natAbs).length) c5), .own 3 A5 ((digs 2 y.natAbs).length) c5 (i64s (digs 2 y.natAbs)), .var 28 g3 (.bool (decide (x < 0))) (.slice A3 ((digs 2 x.natAbs).length) c3), .own 3 A3 ((digs 2 x.natAbs).length) c3 (i64s (digs 2 x.natAbs)), .var 24 (w.heap.size + 1) (.bool nb) (.slice Ab n_b cb), .var 24 w.heap.size (.bool na) (.slice Aa n_a ca)] HE25.out hg29)
  clear hg29 x27a x27b x27c x27d x28a x28b x28c x28d
  go_upto_region 21 with fail
  go_wp2
  go_ret
  exact ⟨rfl, HE29.out.b⟩
set_option maxRecDepth 100000 in
set_option maxHeartbeats 16000000 in
theorem Powers_ss_t3 (na nb : Bool) (kn : Int) (hkn : -9223372036854775808 ≤ kn ∧ kn ≤ 9223372036854775807) {Aa Ab : Option Addr} {la lb : List Nat} {n_a ca n_b cb : Nat} {w : World} {x y : Int} (hx : ival na la = x) (hy : ival nb lb = y) (hsa : SlU w w.heap.size Aa n_a ca la) (hsb : SlU w w.heap.size Ab n_b cb lb) (hna : n_a ≤ 1048576) (hnb : n_b ≤ 1048576) (hlx : tooLong x = false) (hly : tooLong y = false) (hx0 : x ≠ 0) (hkb : 4096 < kn) :
    Calls Try.prog 10 #[.agg #[.bool na, .slice Aa n_a ca], .agg #[.bool nb, .slice Ab n_b cb], .int .i64 kn] w fun e w' => e = .returned (.bool true) ∧ Below w.heap.size w w' := by
  have HX := Lib.hid hx
  have HY := Lib.hid hy
  have HKN := Lib.hid hkn
  obtain ⟨g, hg⟩ : ∃ g, Nat.gcd x.natAbs y.natAbs = g := ⟨_, rfl⟩
  have HGC := Lib.hid hg
  obtain ⟨pz, hpz⟩ : ∃ z, x ^ kn.toNat = z := ⟨_, rfl⟩
  obtain ⟨pc, hpc⟩ : ∃ c, pwCode (tooLong x) x kn = c := ⟨_, rfl⟩
  have HP := Lib.hid (And.intro hpz hpc)
  obtain ⟨sz, hsz⟩ : ∃ z, shZ x kn = z := ⟨_, rfl⟩
  have HSZ := Lib.hid hsz
  have HE := Lib.hid (show err (tooLong x || tooLong y) = 0 by rw [hlx, hly]; rfl)
  have HAL := Lib.hid (show err (tooLong x || tooLong x) = 0 by rw [hlx]; rfl)
  have HA1 := Lib.hid (show err (tooLong x) = 0 by rw [hlx]; rfl)
  have HCG := Lib.hid (show (0 : Int) = codeOf 0 (g : Int) by rw [codeOf, if_pos rfl, ← hg, gcd_short hlx hly]; rfl)
  have HSC := Lib.hid (show err (tooLong x || tooLong sz) = 10 by rw [hlx, ← hsz, up_long hx0 hkb]; rfl)
  have hl0 : (((digs 2 x.natAbs).length : Int) == 0) = false := beq_eq_false_iff_ne.2 (fun e => hx0 (len_zero.1 (by omega)))
  have hk4 : decide ((4096 : Int) < kn) = true := decide_eq_true (by omega)
  have HNX := Lib.hid (bits_le hsa hna hx)
  have HNY := Lib.hid (bits_le hsb hnb hy)
  have HA := Lib.hid (And.intro hna hna)
  have HB := Lib.hid (And.intro hnb hnb)
  have HSA := Lib.hid (fun w1 (hb : Below w.heap.size w w1) => hsa.below hb (Nat.le_refl _))
  have HSB := Lib.hid (fun w1 (hb : Below w.heap.size w w1) => hsb.below hb (Nat.le_refl _))
  have he0 := (Ev.var (Ev.var (Ev.nil w) 24 (.bool na) (.slice Aa n_a ca)) 24 (.bool nb) (.slice Ab n_b cb))
  try simp only [World.size_alloc] at he0
  have HE0 : Hid (Ev w ((w.alloc (.cells #[.bool na, .slice Aa n_a ca] 24)).alloc (.cells #[.bool nb, .slice Ab n_b cb] 24)) [.var 24 (w.heap.size + 1) (.bool nb) (.slice Ab n_b cb), .var 24 w.heap.size (.bool na) (.slice Aa n_a ca)]) := Lib.hid he0
  clear he0
  clear hsa hsb hna hnb hx hy hg hpz hpc hsz hlx hly hx0 hkb hkn
  go_enter Try.func10, Try.ntmps10
  go_upto_region 1 with fail
  generalize ((w.alloc (.cells #[.bool na, .slice Aa n_a ca] 24)).alloc (.cells #[.bool nb, .slice Ab n_b cb] 24)) = w1 at *
  go_wp2_with fail
  refine (awake_any _).mono ?_
  rintro ex w1' ⟨rfl, hb1⟩
  have HE1 : Hid (Ev w w1' [.var 24 (w.heap.size + 1) (.bool nb) (.slice Ab n_b cb), .var 24 w.heap.size (.bool na) (.slice Aa n_a ca)]) := Lib.hid (HE0.out.below hb1)
  clear hb1 
  go_upto_region 2 with fail
  obtain ⟨x2a, x2b, x2c, x2d⟩ := HE1.out.cells (.tail _ (.head _))
  go_wp2_with fail
  refine (Of_w ((HSA.out _ HE1.out.b).mono HE1.out.b.size) HA.out.2 HX.out).mono ?_
  rintro ex w3' ⟨v, rfl, ⟨A3, c3, rfl, ho3⟩, hb3⟩
  have HE3 : Hid (Ev w (w3'.alloc (.cells #[.bool (decide (x < 0)), .slice A3 ((digs 2 x.natAbs).length) c3] 28)) [.var 28 w3'.heap.size (.bool (decide (x < 0))) (.slice A3 ((digs 2 x.natAbs).length) c3), .own 3 A3 ((digs 2 x.natAbs).length) c3 (i64s (digs 2 x.natAbs)), .var 24 (w.heap.size + 1) (.bool nb) (.slice Ab n_b cb), .var 24 w.heap.size (.bool na) (.slice Aa n_a ca)]) := Lib.hid (Ev.var (Ev.own HE1.out hb3 ho3) 28 (.bool (decide (x < 0))) (.slice A3 ((digs 2 x.natAbs).length) c3))
  clear hb3 ho3 x2a x2b x2c x2d
  go_upto_region 3 with fail
  generalize (w3'.alloc (.cells #[.bool (decide (x < 0)), .slice A3 ((digs 2 x.natAbs).length) c3] 28)) = w3 at *
  generalize w3'.heap.size = g3 at *
  obtain ⟨x4a, x4b, x4c, x4d⟩ := HE3.out.cells (.tail _ (.tail _ (.head _)))
  go_wp2_with fail
  refine (Of_w ((HSB.out _ HE3.out.b).mono HE3.out.b.size) HB.out.2 HY.out).mono ?_
  rintro ex w5' ⟨v, rfl, ⟨A5, c5, rfl, ho5⟩, hb5⟩
  have HE5 : Hid (Ev w (w5'.alloc (.cells #[.bool (decide (y < 0)), .slice A5 ((digs 2 y.natAbs).length) c5] 28)) [.var 28 w5'.heap.size (.bool (decide (y < 0))) (.slice A5 ((digs 2 y.natAbs).length) c5), .own 3 A5 ((digs 2 y.natAbs).length) c5 (i64s (digs 2 y.natAbs)), .var 28 g3 (.bool (decide (x < 0))) (.slice A3 ((digs 2 x.natAbs).length) c3), .own 3 A3 ((digs 2 x.natAbs).length) c3 (i64s (digs 2 x.natAbs)), .var 24 (w.heap.size + 1) (.bool nb) (.slice Ab n_b cb), .var 24 w.heap.size (.bool na) (.slice Aa n_a ca)]) := Lib.hid (Ev.var (Ev.own HE3.out hb5 ho5) 28 (.bool (decide (y < 0))) (.slice A5 ((digs 2 y.natAbs).length) c5))
  clear hb5 ho5 x4a x4b x4c x4d
  go_upto_region 4 with fail
  generalize (w5'.alloc (.cells #[.bool (decide (y < 0)), .slice A5 ((digs 2 y.natAbs).length) c5] 28)) = w5 at *
  generalize w5'.heap.size = g5 at *
  obtain ⟨x6a, x6b, x6c, x6d⟩ := HE5.out.cells (.tail _ (.tail _ (.head _)))
  obtain ⟨x7a, x7b, x7c, x7d⟩ := HE5.out.cells (.head _)
  go_wp2_with fail
  refine (long_we (x := x) (y := y) HE.out _ _ _ _ _ _ _).mono ?_
  rintro ex w8' ⟨rfl, hb8⟩
  have HE8 : Hid (Ev w w8' [.var 28 g5 (.bool (decide (y < 0))) (.slice A5 ((digs 2 y.natAbs).length) c5), .own 3 A5 ((digs 2 y.natAbs).length) c5 (i64s (digs 2 y.natAbs)), .var 28 g3 (.bool (decide (x < 0))) (.slice A3 ((digs 2 x.natAbs).length) c3), .own 3 A3 ((digs 2 x.natAbs).length) c3 (i64s (digs 2 x.natAbs)), .var 24 (w.heap.size + 1) (.bool nb) (.slice Ab n_b cb), .var 24 w.heap.size (.bool na) (.slice Aa n_a ca)]) := Lib.hid (HE5.out.below hb8)
  clear hb8 x6a x6b x6c x6d x7a x7b x7c x7d
  go_upto_region 5 with fail
  obtain ⟨x9a, x9b, x9c, x9d⟩ := HE8.out.cells (.tail _ (.tail _ (.head _)))
  go_wp2_with fail
  refine (long_we (x := x) (y := x) HAL.out _ _ _ _ _ _ _).mono ?_
  rintro ex w10' ⟨rfl, hb10⟩
  have HE10 : Hid (Ev w w10' [.var 28 g5 (.bool (decide (y < 0))) (.slice A5 ((digs 2 y.natAbs).length) c5), .own 3 A5 ((digs 2 y.natAbs).length) c5 (i64s (digs 2 y.natAbs)), .var 28 g3 (.bool (decide (x < 0))) (.slice A3 ((digs 2 x.natAbs).length) c3), .own 3 A3 ((digs 2 x.natAbs).length) c3 (i64s (digs 2 x.natAbs)), .var 24 (w.heap.size + 1) (.bool nb) (.slice Ab n_b cb), .var 24 w.heap.size (.bool na) (.slice Aa n_a ca)]) := Lib.hid (HE8.out.below hb10)
  clear hb10 x9a x9b x9c x9d
  go_upto_region 6 with fail
  obtain ⟨x11a, x11b, x11c, x11d⟩ := HE10.out.cells (.tail _ (.tail _ (.tail _ (.tail _ (.tail _ (.head _))))))
  obtain ⟨x12a, x12b, x12c, x12d⟩ := HE10.out.cells (.tail _ (.tail _ (.tail _ (.tail _ (.head _)))))
  go_wp2_with fail
  refine (Gcd_w HE.out ((HSA.out _ HE10.out.b).mono HE10.out.b.size) ((HSB.out _ HE10.out.b).mono HE10.out.b.size) HA.out.2 HB.out.2 HX.out HY.out HGC.out).mono ?_
  rintro ex w13' ⟨neg13, A13, n13, c13, l13, rfl, ho13, hg13, hb13⟩
  have HG13 := Lib.hid hg13
  clear hg13
  have HE13 : Hid (Ev w (w13'.alloc (.cells #[.bool neg13, .slice A13 n13 c13] 24)) [.var 24 w13'.heap.size (.bool neg13) (.slice A13 n13 c13), .own 48 A13 n13 c13 (u32s l13), .var 28 g5 (.bool (decide (y < 0))) (.slice A5 ((digs 2 y.natAbs).length) c5), .own 3 A5 ((digs 2 y.natAbs).length) c5 (i64s (digs 2 y.natAbs)), .var 28 g3 (.bool (decide (x < 0))) (.slice A3 ((digs 2 x.natAbs).length) c3), .own 3 A3 ((digs 2 x.natAbs).length) c3 (i64s (digs 2 x.natAbs)), .var 24 (w.heap.size + 1) (.bool nb) (.slice Ab n_b cb), .var 24 w.heap.size (.bool na) (.slice Aa n_a ca)]) := Lib.hid (Ev.var (Ev.own HE10.out hb13 ho13) 24 (.bool neg13) (.slice A13 n13 c13))
  clear hb13 ho13 x11a x11b x11c x11d x12a x12b x12c x12d
  go_upto_region 7 with fail
  generalize (w13'.alloc (.cells #[.bool neg13, .slice A13 n13 c13] 24)) = w13 at *
  generalize w13'.heap.size = g13 at *
  obtain ⟨x14a, x14b, x14c, x14d⟩ := HE13.out.cells (.tail _ (.tail _ (.tail _ (.tail _ (.tail _ (.tail _ (.tail _ (.head _))))))))
  go_wp2_with fail
  refine (Pow_w (kn := kn) ((HSA.out _ HE13.out.b).mono HE13.out.b.size) HA.out.2 HX.out HP.out.1 HP.out.2).mono ?_
  rintro ex w15' ⟨neg15, A15, n15, c15, l15, rfl, ho15, hg15, hb15⟩
  have HG15 := Lib.hid hg15
  clear hg15
  have HE15 : Hid (Ev w (w15'.alloc (.cells #[.bool neg15, .slice A15 n15 c15] 24)) [.var 24 w15'.heap.size (.bool neg15) (.slice A15 n15 c15), .own 48 A15 n15 c15 (u32s l15), .var 24 g13 (.bool neg13) (.slice A13 n13 c13), .own 48 A13 n13 c13 (u32s l13), .var 28 g5 (.bool (decide (y < 0))) (.slice A5 ((digs 2 y.natAbs).length) c5), .own 3 A5 ((digs 2 y.natAbs).length) c5 (i64s (digs 2 y.natAbs)), .var 28 g3 (.bool (decide (x < 0))) (.slice A3 ((digs 2 x.natAbs).length) c3), .own 3 A3 ((digs 2 x.natAbs).length) c3 (i64s (digs 2 x.natAbs)), .var 24 (w.heap.size + 1) (.bool nb) (.slice Ab n_b cb), .var 24 w.heap.size (.bool na) (.slice Aa n_a ca)]) := Lib.hid (Ev.var (Ev.own HE13.out hb15 ho15) 24 (.bool neg15) (.slice A15 n15 c15))
  clear hb15 ho15 x14a x14b x14c x14d
  go_upto_region 8 with fail
  generalize (w15'.alloc (.cells #[.bool neg15, .slice A15 n15 c15] 24)) = w15 at *
  generalize w15'.heap.size = g15 at *
  obtain ⟨x16a, x16b, x16c, x16d⟩ := HE15.out.cells (.tail _ (.tail _ (.tail _ (.tail _ (.tail _ (.tail _ (.tail _ (.tail _ (.tail _ (.head _))))))))))
  go_wp2_with fail
  refine (Shift_w HKN.out.1 ((HSA.out _ HE15.out.b).mono HE15.out.b.size) HA.out.2 HX.out HSZ.out HSC.out).mono ?_
  rintro ex w17' ⟨neg17, A17, n17, c17, l17, rfl, ho17, hg17, hb17⟩
  have HG17 := Lib.hid hg17
  clear hg17
  have HE17 : Hid (Ev w (w17'.alloc (.cells #[.bool neg17, .slice A17 n17 c17] 24)) [.var 24 w17'.heap.size (.bool neg17) (.slice A17 n17 c17), .own 48 A17 n17 c17 (u32s l17), .var 24 g15 (.bool neg15) (.slice A15 n15 c15), .own 48 A15 n15 c15 (u32s l15), .var 24 g13 (.bool neg13) (.slice A13 n13 c13), .own 48 A13 n13 c13 (u32s l13), .var 28 g5 (.bool (decide (y < 0))) (.slice A5 ((digs 2 y.natAbs).length) c5), .own 3 A5 ((digs 2 y.natAbs).length) c5 (i64s (digs 2 y.natAbs)), .var 28 g3 (.bool (decide (x < 0))) (.slice A3 ((digs 2 x.natAbs).length) c3), .own 3 A3 ((digs 2 x.natAbs).length) c3 (i64s (digs 2 x.natAbs)), .var 24 (w.heap.size + 1) (.bool nb) (.slice Ab n_b cb), .var 24 w.heap.size (.bool na) (.slice Aa n_a ca)]) := Lib.hid (Ev.var (Ev.own HE15.out hb17 ho17) 24 (.bool neg17) (.slice A17 n17 c17))
  clear hb17 ho17 x16a x16b x16c x16d
  go_upto_region 9 with fail
  generalize (w17'.alloc (.cells #[.bool neg17, .slice A17 n17 c17] 24)) = w17 at *
  generalize w17'.heap.size = g17 at *
  go_upto_region 11 with fail
  have HS18 := Lib.hid (fun (w' : World) (ts' : List Th) (he' : Ev w w' ts') (m0 : Th.var 24 g13 (.bool neg13) (.slice A13 n13 c13) ∈ ts') (m1 : Th.var 28 g3 (.bool (decide (x < 0))) (.slice A3 ((digs 2 x.natAbs).length) c3) ∈ ts') (m2 : Th.var 28 g5 (.bool (decide (y < 0))) (.slice A5 ((digs 2 y.natAbs).length) c5) ∈ ts') => show (w'.cell? ⟨g13, 0, none⟩ = some (.bool neg13) ∧ w'.cell? ⟨g13, 1, none⟩ = some (.slice A13 n13 c13)) ∧ (w'.cell? ⟨g3, 0, none⟩ = some (.bool (decide (x < 0))) ∧ w'.cell? ⟨g3, 1, none⟩ = some (.slice A3 ((digs 2 x.natAbs).length) c3)) ∧ (w'.cell? ⟨g5, 0, none⟩ = some (.bool (decide (y < 0))) ∧ w'.cell? ⟨g5, 1, none⟩ = some (.slice A5 ((digs 2 y.natAbs).length) c5)) from And.intro (And.intro (he'.cells m0).1 (he'.cells m0).2.1) (And.intro (And.intro (he'.cells m1).1 (he'.cells m1).2.1) (And.intro (he'.cells m2).1 (he'.cells m2).2.1)))
  have k18_0 : Ev w w17.drew [.var 24 g17 (.bool neg17) (.slice A17 n17 c17), .own 48 A17 n17 c17 (u32s l17), .var 24 g15 (.bool neg15) (.slice A15 n15 c15), .own 48 A15 n15 c15 (u32s l15), .var 24 g13 (.bool neg13) (.slice A13 n13 c13), .own 48 A13 n13 c13 (u32s l13), .var 28 g5 (.bool (decide (y < 0))) (.slice A5 ((digs 2 y.natAbs).length) c5), .own 3 A5 ((digs 2 y.natAbs).length) c5 (i64s (digs 2 y.natAbs)), .var 28 g3 (.bool (decide (x < 0))) (.slice A3 ((digs 2 x.natAbs).length) c3), .own 3 A3 ((digs 2 x.natAbs).length) c3 (i64s (digs 2 x.natAbs)), .var 24 (w.heap.size + 1) (.bool nb) (.slice Ab n_b cb), .var 24 w.heap.size (.bool na) (.slice Aa n_a ca)] := HE17.out.below (Below.refl w17.heap.size w17).drew
  obtain ⟨x19a, x19b, x19c, x19d⟩ := HE17.out.cells (.tail _ (.tail _ (.tail _ (.tail _ (.head _)))))
  obtain ⟨x20a, x20b, x20c, x20d⟩ := HE17.out.cells (.tail _ (.tail _ (.tail _ (.tail _ (.tail _ (.tail _ (.tail _ (.tail _ (.head _)))))))))
  obtain ⟨x21a, x21b, x21c, x21d⟩ := HE17.out.cells (.tail _ (.tail _ (.tail _ (.tail _ (.tail _ (.tail _ (.head _)))))))
  go_region_held3 (fun w' => (w'.cell? ⟨g13, 0, none⟩ = some (.bool neg13) ∧ w'.cell? ⟨g13, 1, none⟩ = some (.slice A13 n13 c13)) ∧ (w'.cell? ⟨g3, 0, none⟩ = some (.bool (decide (x < 0))) ∧ w'.cell? ⟨g3, 1, none⟩ = some (.slice A3 ((digs 2 x.natAbs).length) c3)) ∧ (w'.cell? ⟨g5, 0, none⟩ = some (.bool (decide (y < 0))) ∧ w'.cell? ⟨g5, 1, none⟩ = some (.slice A5 ((digs 2 y.natAbs).length) c5)))
    (first | (go_keep; done) | exact HS18.out _ _ k18_2 (.tail _ (.tail _ (.tail _ (.tail _ (.head _))))) (.tail _ (.tail _ (.tail _ (.tail _ (.tail _ (.tail _ (.tail _ (.head _)))))))) (.tail _ (.tail _ (.tail _ (.tail _ (.tail _ (.head _)))))) | exact HS18.out _ _ k18_1 (.tail _ (.tail _ (.tail _ (.tail _ (.head _))))) (.tail _ (.tail _ (.tail _ (.tail _ (.tail _ (.tail _ (.tail _ (.tail _ (.head _))))))))) (.tail _ (.tail _ (.tail _ (.tail _ (.tail _ (.tail _ (.head _))))))) | exact HS18.out _ _ k18_0 (.tail _ (.tail _ (.tail _ (.tail _ (.head _))))) (.tail _ (.tail _ (.tail _ (.tail _ (.tail _ (.tail _ (.tail _ (.tail _ (.head _))))))))) (.tail _ (.tail _ (.tail _ (.tail _ (.tail _ (.tail _ (.head _))))))))
    (first
      | (go_at_call 56; (refine (rGcd_any (bits_sl (k18_0.has (.tail _ (.tail _ (.tail _ (.tail _ (.tail _ (.tail _ (.tail _ (.tail _ (.tail _ (.head _)))))))))))) (bits_sl (k18_0.has (.tail _ (.tail _ (.tail _ (.tail _ (.tail _ (.tail _ (.tail _ (.head _)))))))))) (Nat.le_refl _) (Nat.le_refl _) HNX.out HNY.out HGC.out).mono ?_); rintro e y18_0 ⟨Ag18, cg18, rfl, hs18, hb18⟩; have k18_1 : Ev w y18_0 [.var 24 g17 (.bool neg17) (.slice A17 n17 c17), .own 48 A17 n17 c17 (u32s l17), .var 24 g15 (.bool neg15) (.slice A15 n15 c15), .own 48 A15 n15 c15 (u32s l15), .var 24 g13 (.bool neg13) (.slice A13 n13 c13), .own 48 A13 n13 c13 (u32s l13), .var 28 g5 (.bool (decide (y < 0))) (.slice A5 ((digs 2 y.natAbs).length) c5), .own 3 A5 ((digs 2 y.natAbs).length) c5 (i64s (digs 2 y.natAbs)), .var 28 g3 (.bool (decide (x < 0))) (.slice A3 ((digs 2 x.natAbs).length) c3), .own 3 A3 ((digs 2 x.natAbs).length) c3 (i64s (digs 2 x.natAbs)), .var 24 (w.heap.size + 1) (.bool nb) (.slice Ab n_b cb), .var 24 w.heap.size (.bool na) (.slice Aa n_a ca)] := k18_0.below hb18; clear hb18)
      | (go_at_call 25; (refine (is_w (k18_1.has (.tail _ (.tail _ (.tail _ (.tail _ (.tail _ (.head _))))))) k18_1.b.size HG13.out hs18 (Nat.le_refl _) HCG.out).mono ?_); rintro e y18_1 ⟨rfl, hg18⟩; have k18_2 : Ev w y18_1 [.var 24 g17 (.bool neg17) (.slice A17 n17 c17), .own 48 A17 n17 c17 (u32s l17), .var 24 g15 (.bool neg15) (.slice A15 n15 c15), .own 48 A15 n15 c15 (u32s l15), .var 24 g13 (.bool neg13) (.slice A13 n13 c13), .var 28 g5 (.bool (decide (y < 0))) (.slice A5 ((digs 2 y.natAbs).length) c5), .own 3 A5 ((digs 2 y.natAbs).length) c5 (i64s (digs 2 y.natAbs)), .var 28 g3 (.bool (decide (x < 0))) (.slice A3 ((digs 2 x.natAbs).length) c3), .own 3 A3 ((digs 2 x.natAbs).length) c3 (i64s (digs 2 x.natAbs)), .var 24 (w.heap.size + 1) (.bool nb) (.slice Ab n_b cb), .var 24 w.heap.size (.bool na) (.slice Aa n_a ca)] := Ev.spend [.var 24 g17 (.bool neg17) (.slice A17 n17 c17), .own 48 A17 n17 c17 (u32s l17), .var 24 g15 (.bool neg15) (.slice A15 n15 c15), .own 48 A15 n15 c15 (u32s l15), .var 24 g13 (.bool neg13) (.slice A13 n13 c13)] (.own 48 A13 n13 c13 (u32s l13)) [.var 28 g5 (.bool (decide (y < 0))) (.slice A5 ((digs 2 y.natAbs).length) c5), .own 3 A5 ((digs 2 y.natAbs).length) c5 (i64s (digs 2 y.natAbs)), .var 28 g3 (.bool (decide (x < 0))) (.slice A3 ((digs 2 x.natAbs).length) c3), .own 3 A3 ((digs 2 x.natAbs).length) c3 (i64s (digs 2 x.natAbs)), .var 24 (w.heap.size + 1) (.bool nb) (.slice Ab n_b cb), .var 24 w.heap.size (.bool na) (.slice Aa n_a ca)] k18_1 hg18; clear hg18))
  have HE18 : Hid (Ev w y18_1 [.var 24 g17 (.bool neg17) (.slice A17 n17 c17), .own 48 A17 n17 c17 (u32s l17), .var 24 g15 (.bool neg15) (.slice A15 n15 c15), .own 48 A15 n15 c15 (u32s l15), .var 24 g13 (.bool neg13) (.slice A13 n13 c13), .var 28 g5 (.bool (decide (y < 0))) (.slice A5 ((digs 2 y.natAbs).length) c5), .own 3 A5 ((digs 2 y.natAbs).length) c5 (i64s (digs 2 y.natAbs)), .var 28 g3 (.bool (decide (x < 0))) (.slice A3 ((digs 2 x.natAbs).length) c3), .own 3 A3 ((digs 2 x.natAbs).length) c3 (i64s (digs 2 x.natAbs)), .var 24 (w.heap.size + 1) (.bool nb) (.slice Ab n_b cb), .var 24 w.heap.size (.bool na) (.slice Aa n_a ca)]) := Lib.hid k18_2
  clear k18_0 k18_1 k18_2 hs18 x19a x19b x19c x19d x20a x20b x20c x20d x21a x21b x21c x21d HS18
  go_upto_region 13 with fail
  obtain ⟨x22a, x22b, x22c, x22d⟩ := HE18.out.cells (.tail _ (.tail _ (.tail _ (.tail _ (.tail _ (.tail _ (.tail _ (.head _))))))))
  obtain ⟨x23a, x23b, x23c, x23d⟩ := HE18.out.cells (.tail _ (.tail _ (.head _)))
  go_wp2_with fail
  refine (powered_any HKN.out.2 (bits_sl (HE18.out.has (.tail _ (.tail _ (.tail _ (.tail _ (.tail _ (.tail _ (.tail _ (.tail _ (.head _))))))))))) (HE18.out.has (.tail _ (.tail _ (.tail _ (.head _))))) HE18.out.b.size HG15.out HP.out.1 HP.out.2 HA1.out).mono ?_
  rintro ex w24' ⟨rfl, hg24⟩
  have HE24 : Hid (Ev w w24' [.var 24 g17 (.bool neg17) (.slice A17 n17 c17), .own 48 A17 n17 c17 (u32s l17), .var 24 g15 (.bool neg15) (.slice A15 n15 c15), .var 24 g13 (.bool neg13) (.slice A13 n13 c13), .var 28 g5 (.bool (decide (y < 0))) (.slice A5 ((digs 2 y.natAbs).length) c5), .own 3 A5 ((digs 2 y.natAbs).length) c5 (i64s (digs 2 y.natAbs)), .var 28 g3 (.bool (decide (x < 0))) (.slice A3 ((digs 2 x.natAbs).length) c3), .own 3 A3 ((digs 2 x.natAbs).length) c3 (i64s (digs 2 x.natAbs)), .var 24 (w.heap.size + 1) (.bool nb) (.slice Ab n_b cb), .var 24 w.heap.size (.bool na) (.slice Aa n_a ca)]) := Lib.hid (Ev.spend [.var 24 g17 (.bool neg17) (.slice A17 n17 c17), .own 48 A17 n17 c17 (u32s l17), .var 24 g15 (.bool neg15) (.slice A15 n15 c15)] (.own 48 A15 n15 c15 (u32s l15)) [.var 24 g13 (.bool neg13) (.slice A13 n13 c13), .var 28 g5 (.bool (decide (y < 0))) (.slice A5 ((digs 2 y.natAbs).length) c5), .own 3 A5 ((digs 2 y.natAbs).length) c5 (i64s (digs 2 y.natAbs)), .var 28 g3 (.bool (decide (x < 0))) (.slice A3 ((digs 2 x.natAbs).length) c3), .own 3 A3 ((digs 2 x.natAbs).length) c3 (i64s (digs 2 x.natAbs)), .var 24 (w.heap.size + 1) (.bool nb) (.slice Ab n_b cb), .var 24 w.heap.size (.bool na) (.slice Aa n_a ca)] HE18.out hg24)
  clear hg24 x22a x22b x22c x22d x23a x23b x23c x23d
  go_upto_region 14 with fail
  go_upto_region 14 with fail
  have HE25 : Hid (Ev w (w24'.alloc (.cells #[.bool false, .slice none 0 0] 28)) [.var 28 w24'.heap.size (.bool false) (.slice none 0 0), .var 24 g17 (.bool neg17) (.slice A17 n17 c17), .own 48 A17 n17 c17 (u32s l17), .var 24 g15 (.bool neg15) (.slice A15 n15 c15), .var 24 g13 (.bool neg13) (.slice A13 n13 c13), .var 28 g5 (.bool (decide (y < 0))) (.slice A5 ((digs 2 y.natAbs).length) c5), .own 3 A5 ((digs 2 y.natAbs).length) c5 (i64s (digs 2 y.natAbs)), .var 28 g3 (.bool (decide (x < 0))) (.slice A3 ((digs 2 x.natAbs).length) c3), .own 3 A3 ((digs 2 x.natAbs).length) c3 (i64s (digs 2 x.natAbs)), .var 24 (w.heap.size + 1) (.bool nb) (.slice Ab n_b cb), .var 24 w.heap.size (.bool na) (.slice Aa n_a ca)]) := Lib.hid (Ev.var HE24.out 28 (.bool false) (.slice none 0 0))
  go_upto_region 15 with fail
  generalize (w24'.alloc (.cells #[.bool false, .slice none 0 0] 28)) = w25 at *
  generalize w24'.heap.size = g25 at *
  obtain ⟨x26a, x26b, x26c, x26d⟩ := HE25.out.cells (.tail _ (.tail _ (.tail _ (.tail _ (.tail _ (.tail _ (.tail _ (.head _))))))))
  go_upto_region 20 with fail
  clear x26a x26b x26c x26d
  obtain ⟨x27a, x27b, x27c, x27d⟩ := HE25.out.cells (.tail _ (.head _))
  obtain ⟨x28a, x28b, x28c, x28d⟩ := HE25.out.cells (.head _)
  go_wp2_with fail
  refine (is_b _ _ _ _ (Option.map Addr.block A17) HG17.out (by decide) rfl).mono ?_
  rintro ex w29' ⟨rfl, hg29⟩
  have HE29 : Hid (Ev w w29' [.var 28 g25 (.bool false) (.slice none 0 0), .var 24 g17 (.bool neg17) (.slice A17 n17 c17), .var 24 g15 (.bool neg15) (.slice A15 n15 c15), .var 24 g13 (.bool neg13) (.slice A13 n13 c13), .var 28 g5 (.bool (decide (y < 0))) (.slice A5 ((digs 2 y.natAbs).length) c5), .own 3 A5 ((digs 2 y.natAbs).length) c5 (i64s (digs 2 y.natAbs)), .var 28 g3 (.bool (decide (x < 0))) (.slice A3 ((digs 2 x.natAbs).length) c3), .own 3 A3 ((digs 2 x.natAbs).length) c3 (i64s (digs 2 x.natAbs)), .var 24 (w.heap.size + 1) (.bool nb) (.slice Ab n_b cb), .var 24 w.heap.size (.bool na) (.slice Aa n_a ca)]) := Lib.hid (Ev.spend [.var 28 g25 (.bool false) (.slice none 0 0), .var 24 g17 (.bool neg17) (.slice A17 n17 c17)] (.own 48 A17 n17 c17 (u32s l17)) [.var 24 g15 (.bool neg15) (.slice A15 n15 c15), .var 24 g13 (.bool neg13) (.slice A13 n13 c13), .var 28 g5 (.bool (decide (y < 0))) (.slice A5 ((digs 2 y.natAbs).length) c5), .own 3 A5 ((digs 2 y.natAbs).length) c5 (i64s (digs 2 y.natAbs)), .var 28 g3 (.bool (decide (x < 0))) (.slice A3 ((digs 2 x.natAbs).length) c3), .own 3 A3 ((digs 2 x.natAbs).length) c3 (i64s (digs 2 x.natAbs)), .var 24 (w.heap.size + 1) (.bool nb) (.slice Ab n_b cb), .var 24 w.heap.size (.bool na) (.slice Aa n_a ca)] HE25.out hg29)
  clear hg29 x27a x27b x27c x27d x28a x28b x28c x28d
  go_upto_region 21 with fail
  go_wp2
  go_ret
  exact ⟨rfl, HE29.out.b⟩
set_option maxRecDepth 100000 in
set_option maxHeartbeats 16000000 in
theorem Powers_ss_t4 (na nb : Bool) (kn : Int) (hkn : -9223372036854775808 ≤ kn ∧ kn ≤ 9223372036854775807) {Aa Ab : Option Addr} {la lb : List Nat} {n_a ca n_b cb : Nat} {w : World} {x y : Int} (hx : ival na la = x) (hy : ival nb lb = y) (hsa : SlU w w.heap.size Aa n_a ca la) (hsb : SlU w w.heap.size Ab n_b cb lb) (hna : n_a ≤ 1048576) (hnb : n_b ≤ 1048576) (hlx : tooLong x = false) (hly : tooLong y = false) (hx0 : x ≠ 0) (hkb : kn ≤ 4096) :
    Calls Try.prog 10 #[.agg #[.bool na, .slice Aa n_a ca], .agg #[.bool nb, .slice Ab n_b cb], .int .i64 kn] w fun e w' => e = .returned (.bool true) ∧ Below w.heap.size w w' := by
  have HX := Lib.hid hx
  have HY := Lib.hid hy
  have HKN := Lib.hid hkn
  obtain ⟨g, hg⟩ : ∃ g, Nat.gcd x.natAbs y.natAbs = g := ⟨_, rfl⟩
  have HGC := Lib.hid hg
  obtain ⟨pz, hpz⟩ : ∃ z, x ^ kn.toNat = z := ⟨_, rfl⟩
  obtain ⟨pc, hpc⟩ : ∃ c, pwCode (tooLong x) x kn = c := ⟨_, rfl⟩
  have HP := Lib.hid (And.intro hpz hpc)
  obtain ⟨sz, hsz⟩ : ∃ z, shZ x kn = z := ⟨_, rfl⟩
  have HSZ := Lib.hid hsz
  have HE := Lib.hid (show err (tooLong x || tooLong y) = 0 by rw [hlx, hly]; rfl)
  have HAL := Lib.hid (show err (tooLong x || tooLong x) = 0 by rw [hlx]; rfl)
  have HA1 := Lib.hid (show err (tooLong x) = 0 by rw [hlx]; rfl)
  have HCG := Lib.hid (show (0 : Int) = codeOf 0 (g : Int) by rw [codeOf, if_pos rfl, ← hg, gcd_short hlx hly]; rfl)
  obtain ⟨sc, hsc⟩ : ∃ c, err (tooLong sz) = c := ⟨_, rfl⟩
  have HSC := Lib.hid (show err (tooLong x || tooLong sz) = sc by rw [hlx, Bool.false_or, hsc])
  have HCS := Lib.hid (show sc = codeOf 0 sz by rw [codeOf, if_pos rfl, hsc])
  have HX0 := Lib.hid hx0
  have HXS := Lib.hid (show (digs 2 x.natAbs).length ≤ 1000000 from Nat.le_trans (short_bits hlx) (by decide))
  have HK9 := Lib.hid (show kn ≤ 1000000 by omega)
  have hl0 : (((digs 2 x.natAbs).length : Int) == 0) = false := beq_eq_false_iff_ne.2 (fun e => hx0 (len_zero.1 (by omega)))
  have hk4 : decide ((4096 : Int) < kn) = false := decide_eq_false (by omega)
  have HNX := Lib.hid (bits_le hsa hna hx)
  have HNY := Lib.hid (bits_le hsb hnb hy)
  have HA := Lib.hid (And.intro hna hna)
  have HB := Lib.hid (And.intro hnb hnb)
  have HSA := Lib.hid (fun w1 (hb : Below w.heap.size w w1) => hsa.below hb (Nat.le_refl _))
  have HSB := Lib.hid (fun w1 (hb : Below w.heap.size w w1) => hsb.below hb (Nat.le_refl _))
  have he0 := (Ev.var (Ev.var (Ev.nil w) 24 (.bool na) (.slice Aa n_a ca)) 24 (.bool nb) (.slice Ab n_b cb))
  try simp only [World.size_alloc] at he0
  have HE0 : Hid (Ev w ((w.alloc (.cells #[.bool na, .slice Aa n_a ca] 24)).alloc (.cells #[.bool nb, .slice Ab n_b cb] 24)) [.var 24 (w.heap.size + 1) (.bool nb) (.slice Ab n_b cb), .var 24 w.heap.size (.bool na) (.slice Aa n_a ca)]) := Lib.hid he0
  clear he0
  clear hsa hsb hna hnb hx hy hg hpz hpc hsz hlx hly hx0 hkb hsc hkn
  go_enter Try.func10, Try.ntmps10
  go_upto_region 1 with fail
  generalize ((w.alloc (.cells #[.bool na, .slice Aa n_a ca] 24)).alloc (.cells #[.bool nb, .slice Ab n_b cb] 24)) = w1 at *
  go_wp2_with fail
  refine (awake_any _).mono ?_
  rintro ex w1' ⟨rfl, hb1⟩
  have HE1 : Hid (Ev w w1' [.var 24 (w.heap.size + 1) (.bool nb) (.slice Ab n_b cb), .var 24 w.heap.size (.bool na) (.slice Aa n_a ca)]) := Lib.hid (HE0.out.below hb1)
  clear hb1 
  go_upto_region 2 with fail
  obtain ⟨x2a, x2b, x2c, x2d⟩ := HE1.out.cells (.tail _ (.head _))
  go_wp2_with fail
  refine (Of_w ((HSA.out _ HE1.out.b).mono HE1.out.b.size) HA.out.2 HX.out).mono ?_
  rintro ex w3' ⟨v, rfl, ⟨A3, c3, rfl, ho3⟩, hb3⟩
  have HE3 : Hid (Ev w (w3'.alloc (.cells #[.bool (decide (x < 0)), .slice A3 ((digs 2 x.natAbs).length) c3] 28)) [.var 28 w3'.heap.size (.bool (decide (x < 0))) (.slice A3 ((digs 2 x.natAbs).length) c3), .own 3 A3 ((digs 2 x.natAbs).length) c3 (i64s (digs 2 x.natAbs)), .var 24 (w.heap.size + 1) (.bool nb) (.slice Ab n_b cb), .var 24 w.heap.size (.bool na) (.slice Aa n_a ca)]) := Lib.hid (Ev.var (Ev.own HE1.out hb3 ho3) 28 (.bool (decide (x < 0))) (.slice A3 ((digs 2 x.natAbs).length) c3))
  clear hb3 ho3 x2a x2b x2c x2d
  go_upto_region 3 with fail
  generalize (w3'.alloc (.cells #[.bool (decide (x < 0)), .slice A3 ((digs 2 x.natAbs).length) c3] 28)) = w3 at *
  generalize w3'.heap.size = g3 at *
  obtain ⟨x4a, x4b, x4c, x4d⟩ := HE3.out.cells (.tail _ (.tail _ (.head _)))
  go_wp2_with fail
  refine (Of_w ((HSB.out _ HE3.out.b).mono HE3.out.b.size) HB.out.2 HY.out).mono ?_
  rintro ex w5' ⟨v, rfl, ⟨A5, c5, rfl, ho5⟩, hb5⟩
  have HE5 : Hid (Ev w (w5'.alloc (.cells #[.bool (decide (y < 0)), .slice A5 ((digs 2 y.natAbs).length) c5] 28)) [.var 28 w5'.heap.size (.bool (decide (y < 0))) (.slice A5 ((digs 2 y.natAbs).length) c5), .own 3 A5 ((digs 2 y.natAbs).length) c5 (i64s (digs 2 y.natAbs)), .var 28 g3 (.bool (decide (x < 0))) (.slice A3 ((digs 2 x.natAbs).length) c3), .own 3 A3 ((digs 2 x.natAbs).length) c3 (i64s (digs 2 x.natAbs)), .var 24 (w.heap.size + 1) (.bool nb) (.slice Ab n_b cb), .var 24 w.heap.size (.bool na) (.slice Aa n_a ca)]) := Lib.hid (Ev.var (Ev.own HE3.out hb5 ho5) 28 (.bool (decide (y < 0))) (.slice A5 ((digs 2 y.natAbs).length) c5))
  clear hb5 ho5 x4a x4b x4c x4d
  go_upto_region 4 with fail
  generalize (w5'.alloc (.cells #[.bool (decide (y < 0)), .slice A5 ((digs 2 y.natAbs).length) c5] 28)) = w5 at *
  generalize w5'.heap.size = g5 at *
  obtain ⟨x6a, x6b, x6c, x6d⟩ := HE5.out.cells (.tail _ (.tail _ (.head _)))
  obtain ⟨x7a, x7b, x7c, x7d⟩ := HE5.out.cells (.head _)
  go_wp2_with fail
  refine (long_we (x := x) (y := y) HE.out _ _ _ _ _ _ _).mono ?_
  rintro ex w8' ⟨rfl, hb8⟩
  have HE8 : Hid (Ev w w8' [.var 28 g5 (.bool (decide (y < 0))) (.slice A5 ((digs 2 y.natAbs).length) c5), .own 3 A5 ((digs 2 y.natAbs).length) c5 (i64s (digs 2 y.natAbs)), .var 28 g3 (.bool (decide (x < 0))) (.slice A3 ((digs 2 x.natAbs).length) c3), .own 3 A3 ((digs 2 x.natAbs).length) c3 (i64s (digs 2 x.natAbs)), .var 24 (w.heap.size + 1) (.bool nb) (.slice Ab n_b cb), .var 24 w.heap.size (.bool na) (.slice Aa n_a ca)]) := Lib.hid (HE5.out.below hb8)
  clear hb8 x6a x6b x6c x6d x7a x7b x7c x7d
  go_upto_region 5 with fail
  obtain ⟨x9a, x9b, x9c, x9d⟩ := HE8.out.cells (.tail _ (.tail _ (.head _)))
  go_wp2_with fail
  refine (long_we (x := x) (y := x) HAL.out _ _ _ _ _ _ _).mono ?_
  rintro ex w10' ⟨rfl, hb10⟩
  have HE10 : Hid (Ev w w10' [.var 28 g5 (.bool (decide (y < 0))) (.slice A5 ((digs 2 y.natAbs).length) c5), .own 3 A5 ((digs 2 y.natAbs).length) c5 (i64s (digs 2 y.natAbs)), .var 28 g3 (.bool (decide (x < 0))) (.slice A3 ((digs 2 x.natAbs).length) c3), .own 3 A3 ((digs 2 x.natAbs).length) c3 (i64s (digs 2 x.natAbs)), .var 24 (w.heap.size + 1) (.bool nb) (.slice Ab n_b cb), .var 24 w.heap.size (.bool na) (.slice Aa n_a ca)]) := Lib.hid (HE8.out.below hb10)
  clear hb10 x9a x9b x9c x9d
  go_upto_region 6 with fail
  obtain ⟨x11a, x11b, x11c, x11d⟩ := HE10.out.cells (.tail _ (.tail _ (.tail _ (.tail _ (.tail _ (.head _))))))
  obtain ⟨x12a, x12b, x12c, x12d⟩ := HE10.out.cells (.tail _ (.tail _ (.tail _ (.tail _ (.head _)))))
  go_wp2_with fail
  refine (Gcd_w HE.out ((HSA.out _ HE10.out.b).mono HE10.out.b.size) ((HSB.out _ HE10.out.b).mono HE10.out.b.size) HA.out.2 HB.out.2 HX.out HY.out HGC.out).mono ?_
  rintro ex w13' ⟨neg13, A13, n13, c13, l13, rfl, ho13, hg13, hb13⟩
  have HG13 := Lib.hid hg13
  clear hg13
  have HE13 : Hid (Ev w (w13'.alloc (.cells #[.bool neg13, .slice A13 n13 c13] 24)) [.var 24 w13'.heap.size (.bool neg13) (.slice A13 n13 c13), .own 48 A13 n13 c13 (u32s l13), .var 28 g5 (.bool (decide (y < 0))) (.slice A5 ((digs 2 y.natAbs).length) c5), .own 3 A5 ((digs 2 y.natAbs).length) c5 (i64s (digs 2 y.natAbs)), .var 28 g3 (.bool (decide (x < 0))) (.slice A3 ((digs 2 x.natAbs).length) c3), .own 3 A3 ((digs 2 x.natAbs).length) c3 (i64s (digs 2 x.natAbs)), .var 24 (w.heap.size + 1) (.bool nb) (.slice Ab n_b cb), .var 24 w.heap.size (.bool na) (.slice Aa n_a ca)]) := Lib.hid (Ev.var (Ev.own HE10.out hb13 ho13) 24 (.bool neg13) (.slice A13 n13 c13))
  clear hb13 ho13 x11a x11b x11c x11d x12a x12b x12c x12d
  go_upto_region 7 with fail
  generalize (w13'.alloc (.cells #[.bool neg13, .slice A13 n13 c13] 24)) = w13 at *
  generalize w13'.heap.size = g13 at *
  obtain ⟨x14a, x14b, x14c, x14d⟩ := HE13.out.cells (.tail _ (.tail _ (.tail _ (.tail _ (.tail _ (.tail _ (.tail _ (.head _))))))))
  go_wp2_with fail
  refine (Pow_w (kn := kn) ((HSA.out _ HE13.out.b).mono HE13.out.b.size) HA.out.2 HX.out HP.out.1 HP.out.2).mono ?_
  rintro ex w15' ⟨neg15, A15, n15, c15, l15, rfl, ho15, hg15, hb15⟩
  have HG15 := Lib.hid hg15
  clear hg15
  have HE15 : Hid (Ev w (w15'.alloc (.cells #[.bool neg15, .slice A15 n15 c15] 24)) [.var 24 w15'.heap.size (.bool neg15) (.slice A15 n15 c15), .own 48 A15 n15 c15 (u32s l15), .var 24 g13 (.bool neg13) (.slice A13 n13 c13), .own 48 A13 n13 c13 (u32s l13), .var 28 g5 (.bool (decide (y < 0))) (.slice A5 ((digs 2 y.natAbs).length) c5), .own 3 A5 ((digs 2 y.natAbs).length) c5 (i64s (digs 2 y.natAbs)), .var 28 g3 (.bool (decide (x < 0))) (.slice A3 ((digs 2 x.natAbs).length) c3), .own 3 A3 ((digs 2 x.natAbs).length) c3 (i64s (digs 2 x.natAbs)), .var 24 (w.heap.size + 1) (.bool nb) (.slice Ab n_b cb), .var 24 w.heap.size (.bool na) (.slice Aa n_a ca)]) := Lib.hid (Ev.var (Ev.own HE13.out hb15 ho15) 24 (.bool neg15) (.slice A15 n15 c15))
  clear hb15 ho15 x14a x14b x14c x14d
  go_upto_region 8 with fail
  generalize (w15'.alloc (.cells #[.bool neg15, .slice A15 n15 c15] 24)) = w15 at *
  generalize w15'.heap.size = g15 at *
  obtain ⟨x16a, x16b, x16c, x16d⟩ := HE15.out.cells (.tail _ (.tail _ (.tail _ (.tail _ (.tail _ (.tail _ (.tail _ (.tail _ (.tail _ (.head _))))))))))
  go_wp2_with fail
  refine (Shift_w HKN.out.1 ((HSA.out _ HE15.out.b).mono HE15.out.b.size) HA.out.2 HX.out HSZ.out HSC.out).mono ?_
  rintro ex w17' ⟨neg17, A17, n17, c17, l17, rfl, ho17, hg17, hb17⟩
  have HG17 := Lib.hid hg17
  clear hg17
  have HE17 : Hid (Ev w (w17'.alloc (.cells #[.bool neg17, .slice A17 n17 c17] 24)) [.var 24 w17'.heap.size (.bool neg17) (.slice A17 n17 c17), .own 48 A17 n17 c17 (u32s l17), .var 24 g15 (.bool neg15) (.slice A15 n15 c15), .own 48 A15 n15 c15 (u32s l15), .var 24 g13 (.bool neg13) (.slice A13 n13 c13), .own 48 A13 n13 c13 (u32s l13), .var 28 g5 (.bool (decide (y < 0))) (.slice A5 ((digs 2 y.natAbs).length) c5), .own 3 A5 ((digs 2 y.natAbs).length) c5 (i64s (digs 2 y.natAbs)), .var 28 g3 (.bool (decide (x < 0))) (.slice A3 ((digs 2 x.natAbs).length) c3), .own 3 A3 ((digs 2 x.natAbs).length) c3 (i64s (digs 2 x.natAbs)), .var 24 (w.heap.size + 1) (.bool nb) (.slice Ab n_b cb), .var 24 w.heap.size (.bool na) (.slice Aa n_a ca)]) := Lib.hid (Ev.var (Ev.own HE15.out hb17 ho17) 24 (.bool neg17) (.slice A17 n17 c17))
  clear hb17 ho17 x16a x16b x16c x16d
  go_upto_region 9 with fail
  generalize (w17'.alloc (.cells #[.bool neg17, .slice A17 n17 c17] 24)) = w17 at *
  generalize w17'.heap.size = g17 at *
  go_upto_region 11 with fail
  have HS18 := Lib.hid (fun (w' : World) (ts' : List Th) (he' : Ev w w' ts') (m0 : Th.var 24 g13 (.bool neg13) (.slice A13 n13 c13) ∈ ts') (m1 : Th.var 28 g3 (.bool (decide (x < 0))) (.slice A3 ((digs 2 x.natAbs).length) c3) ∈ ts') (m2 : Th.var 28 g5 (.bool (decide (y < 0))) (.slice A5 ((digs 2 y.natAbs).length) c5) ∈ ts') => show (w'.cell? ⟨g13, 0, none⟩ = some (.bool neg13) ∧ w'.cell? ⟨g13, 1, none⟩ = some (.slice A13 n13 c13)) ∧ (w'.cell? ⟨g3, 0, none⟩ = some (.bool (decide (x < 0))) ∧ w'.cell? ⟨g3, 1, none⟩ = some (.slice A3 ((digs 2 x.natAbs).length) c3)) ∧ (w'.cell? ⟨g5, 0, none⟩ = some (.bool (decide (y < 0))) ∧ w'.cell? ⟨g5, 1, none⟩ = some (.slice A5 ((digs 2 y.natAbs).length) c5)) from And.intro (And.intro (he'.cells m0).1 (he'.cells m0).2.1) (And.intro (And.intro (he'.cells m1).1 (he'.cells m1).2.1) (And.intro (he'.cells m2).1 (he'.cells m2).2.1)))
  have k18_0 : Ev w w17.drew [.var 24 g17 (.bool neg17) (.slice A17 n17 c17), .own 48 A17 n17 c17 (u32s l17), .var 24 g15 (.bool neg15) (.slice A15 n15 c15), .own 48 A15 n15 c15 (u32s l15), .var 24 g13 (.bool neg13) (.slice A13 n13 c13), .own 48 A13 n13 c13 (u32s l13), .var 28 g5 (.bool (decide (y < 0))) (.slice A5 ((digs 2 y.natAbs).length) c5), .own 3 A5 ((digs 2 y.natAbs).length) c5 (i64s (digs 2 y.natAbs)), .var 28 g3 (.bool (decide (x < 0))) (.slice A3 ((digs 2 x.natAbs).length) c3), .own 3 A3 ((digs 2 x.natAbs).length) c3 (i64s (digs 2 x.natAbs)), .var 24 (w.heap.size + 1) (.bool nb) (.slice Ab n_b cb), .var 24 w.heap.size (.bool na) (.slice Aa n_a ca)] := HE17.out.below (Below.refl w17.heap.size w17).drew
  obtain ⟨x19a, x19b, x19c, x19d⟩ := HE17.out.cells (.tail _ (.tail _ (.tail _ (.tail _ (.head _)))))
  obtain ⟨x20a, x20b, x20c, x20d⟩ := HE17.out.cells (.tail _ (.tail _ (.tail _ (.tail _ (.tail _ (.tail _ (.tail _ (.tail _ (.head _)))))))))
  obtain ⟨x21a, x21b, x21c, x21d⟩ := HE17.out.cells (.tail _ (.tail _ (.tail _ (.tail _ (.tail _ (.tail _ (.head _)))))))
  go_region_held3 (fun w' => (w'.cell? ⟨g13, 0, none⟩ = some (.bool neg13) ∧ w'.cell? ⟨g13, 1, none⟩ = some (.slice A13 n13 c13)) ∧ (w'.cell? ⟨g3, 0, none⟩ = some (.bool (decide (x < 0))) ∧ w'.cell? ⟨g3, 1, none⟩ = some (.slice A3 ((digs 2 x.natAbs).length) c3)) ∧ (w'.cell? ⟨g5, 0, none⟩ = some (.bool (decide (y < 0))) ∧ w'.cell? ⟨g5, 1, none⟩ = some (.slice A5 ((digs 2 y.natAbs).length) c5)))
    (first | (go_keep; done) | exact HS18.out _ _ k18_2 (.tail _ (.tail _ (.tail _ (.tail _ (.head _))))) (.tail _ (.tail _ (.tail _ (.tail _ (.tail _ (.tail _ (.tail _ (.head _)))))))) (.tail _ (.tail _ (.tail _ (.tail _ (.tail _ (.head _)))))) | exact HS18.out _ _ k18_1 (.tail _ (.tail _ (.tail _ (.tail _ (.head _))))) (.tail _ (.tail _ (.tail _ (.tail _ (.tail _ (.tail _ (.tail _ (.tail _ (.head _))))))))) (.tail _ (.tail _ (.tail _ (.tail _ (.tail _ (.tail _ (.head _))))))) | exact HS18.out _ _ k18_0 (.tail _ (.tail _ (.tail _ (.tail _ (.head _))))) (.tail _ (.tail _ (.tail _ (.tail _ (.tail _ (.tail _ (.tail _ (.tail _ (.head _))))))))) (.tail _ (.tail _ (.tail _ (.tail _ (.tail _ (.tail _ (.head _))))))))
    (first
      | (go_at_call 56; (refine (rGcd_any (bits_sl (k18_0.has (.tail _ (.tail _ (.tail _ (.tail _ (.tail _ (.tail _ (.tail _ (.tail _ (.tail _ (.head _)))))))))))) (bits_sl (k18_0.has (.tail _ (.tail _ (.tail _ (.tail _ (.tail _ (.tail _ (.tail _ (.head _)))))))))) (Nat.le_refl _) (Nat.le_refl _) HNX.out HNY.out HGC.out).mono ?_); rintro e y18_0 ⟨Ag18, cg18, rfl, hs18, hb18⟩; have k18_1 : Ev w y18_0 [.var 24 g17 (.bool neg17) (.slice A17 n17 c17), .own 48 A17 n17 c17 (u32s l17), .var 24 g15 (.bool neg15) (.slice A15 n15 c15), .own 48 A15 n15 c15 (u32s l15), .var 24 g13 (.bool neg13) (.slice A13 n13 c13), .own 48 A13 n13 c13 (u32s l13), .var 28 g5 (.bool (decide (y < 0))) (.slice A5 ((digs 2 y.natAbs).length) c5), .own 3 A5 ((digs 2 y.natAbs).length) c5 (i64s (digs 2 y.natAbs)), .var 28 g3 (.bool (decide (x < 0))) (.slice A3 ((digs 2 x.natAbs).length) c3), .own 3 A3 ((digs 2 x.natAbs).length) c3 (i64s (digs 2 x.natAbs)), .var 24 (w.heap.size + 1) (.bool nb) (.slice Ab n_b cb), .var 24 w.heap.size (.bool na) (.slice Aa n_a ca)] := k18_0.below hb18; clear hb18)
      | (go_at_call 25; (refine (is_w (k18_1.has (.tail _ (.tail _ (.tail _ (.tail _ (.tail _ (.head _))))))) k18_1.b.size HG13.out hs18 (Nat.le_refl _) HCG.out).mono ?_); rintro e y18_1 ⟨rfl, hg18⟩; have k18_2 : Ev w y18_1 [.var 24 g17 (.bool neg17) (.slice A17 n17 c17), .own 48 A17 n17 c17 (u32s l17), .var 24 g15 (.bool neg15) (.slice A15 n15 c15), .own 48 A15 n15 c15 (u32s l15), .var 24 g13 (.bool neg13) (.slice A13 n13 c13), .var 28 g5 (.bool (decide (y < 0))) (.slice A5 ((digs 2 y.natAbs).length) c5), .own 3 A5 ((digs 2 y.natAbs).length) c5 (i64s (digs 2 y.natAbs)), .var 28 g3 (.bool (decide (x < 0))) (.slice A3 ((digs 2 x.natAbs).length) c3), .own 3 A3 ((digs 2 x.natAbs).length) c3 (i64s (digs 2 x.natAbs)), .var 24 (w.heap.size + 1) (.bool nb) (.slice Ab n_b cb), .var 24 w.heap.size (.bool na) (.slice Aa n_a ca)] := Ev.spend [.var 24 g17 (.bool neg17) (.slice A17 n17 c17), .own 48 A17 n17 c17 (u32s l17), .var 24 g15 (.bool neg15) (.slice A15 n15 c15), .own 48 A15 n15 c15 (u32s l15), .var 24 g13 (.bool neg13) (.slice A13 n13 c13)] (.own 48 A13 n13 c13 (u32s l13)) [.var 28 g5 (.bool (decide (y < 0))) (.slice A5 ((digs 2 y.natAbs).length) c5), .own 3 A5 ((digs 2 y.natAbs).length) c5 (i64s (digs 2 y.natAbs)), .var 28 g3 (.bool (decide (x < 0))) (.slice A3 ((digs 2 x.natAbs).length) c3), .own 3 A3 ((digs 2 x.natAbs).length) c3 (i64s (digs 2 x.natAbs)), .var 24 (w.heap.size + 1) (.bool nb) (.slice Ab n_b cb), .var 24 w.heap.size (.bool na) (.slice Aa n_a ca)] k18_1 hg18; clear hg18))
  have HE18 : Hid (Ev w y18_1 [.var 24 g17 (.bool neg17) (.slice A17 n17 c17), .own 48 A17 n17 c17 (u32s l17), .var 24 g15 (.bool neg15) (.slice A15 n15 c15), .own 48 A15 n15 c15 (u32s l15), .var 24 g13 (.bool neg13) (.slice A13 n13 c13), .var 28 g5 (.bool (decide (y < 0))) (.slice A5 ((digs 2 y.natAbs).length) c5), .own 3 A5 ((digs 2 y.natAbs).length) c5 (i64s (digs 2 y.natAbs)), .var 28 g3 (.bool (decide (x < 0))) (.slice A3 ((digs 2 x.natAbs).length) c3), .own 3 A3 ((digs 2 x.natAbs).length) c3 (i64s (digs 2 x.natAbs)), .var 24 (w.heap.size + 1) (.bool nb) (.slice Ab n_b cb), .var 24 w.heap.size (.bool na) (.slice Aa n_a ca)]) := Lib.hid k18_2
  clear k18_0 k18_1 k18_2 hs18 x19a x19b x19c x19d x20a x20b x20c x20d x21a x21b x21c x21d HS18
  go_upto_region 13 with fail
  obtain ⟨x22a, x22b, x22c, x22d⟩ := HE18.out.cells (.tail _ (.tail _ (.tail _ (.tail _ (.tail _ (.tail _ (.tail _ (.head _))))))))
  obtain ⟨x23a, x23b, x23c, x23d⟩ := HE18.out.cells (.tail _ (.tail _ (.head _)))
  go_wp2_with fail
  refine (powered_any HKN.out.2 (bits_sl (HE18.out.has (.tail _ (.tail _ (.tail _ (.tail _ (.tail _ (.tail _ (.tail _ (.tail _ (.head _))))))))))) (HE18.out.has (.tail _ (.tail _ (.tail _ (.head _))))) HE18.out.b.size HG15.out HP.out.1 HP.out.2 HA1.out).mono ?_
  rintro ex w24' ⟨rfl, hg24⟩
  have HE24 : Hid (Ev w w24' [.var 24 g17 (.bool neg17) (.slice A17 n17 c17), .own 48 A17 n17 c17 (u32s l17), .var 24 g15 (.bool neg15) (.slice A15 n15 c15), .var 24 g13 (.bool neg13) (.slice A13 n13 c13), .var 28 g5 (.bool (decide (y < 0))) (.slice A5 ((digs 2 y.natAbs).length) c5), .own 3 A5 ((digs 2 y.natAbs).length) c5 (i64s (digs 2 y.natAbs)), .var 28 g3 (.bool (decide (x < 0))) (.slice A3 ((digs 2 x.natAbs).length) c3), .own 3 A3 ((digs 2 x.natAbs).length) c3 (i64s (digs 2 x.natAbs)), .var 24 (w.heap.size + 1) (.bool nb) (.slice Ab n_b cb), .var 24 w.heap.size (.bool na) (.slice Aa n_a ca)]) := Lib.hid (Ev.spend [.var 24 g17 (.bool neg17) (.slice A17 n17 c17), .own 48 A17 n17 c17 (u32s l17), .var 24 g15 (.bool neg15) (.slice A15 n15 c15)] (.own 48 A15 n15 c15 (u32s l15)) [.var 24 g13 (.bool neg13) (.slice A13 n13 c13), .var 28 g5 (.bool (decide (y < 0))) (.slice A5 ((digs 2 y.natAbs).length) c5), .own 3 A5 ((digs 2 y.natAbs).length) c5 (i64s (digs 2 y.natAbs)), .var 28 g3 (.bool (decide (x < 0))) (.slice A3 ((digs 2 x.natAbs).length) c3), .own 3 A3 ((digs 2 x.natAbs).length) c3 (i64s (digs 2 x.natAbs)), .var 24 (w.heap.size + 1) (.bool nb) (.slice Ab n_b cb), .var 24 w.heap.size (.bool na) (.slice Aa n_a ca)] HE18.out hg24)
  clear hg24 x22a x22b x22c x22d x23a x23b x23c x23d
  go_upto_region 14 with fail
  go_upto_region 14 with fail
  have HE25 : Hid (Ev w (w24'.alloc (.cells #[.bool false, .slice none 0 0] 28)) [.var 28 w24'.heap.size (.bool false) (.slice none 0 0), .var 24 g17 (.bool neg17) (.slice A17 n17 c17), .own 48 A17 n17 c17 (u32s l17), .var 24 g15 (.bool neg15) (.slice A15 n15 c15), .var 24 g13 (.bool neg13) (.slice A13 n13 c13), .var 28 g5 (.bool (decide (y < 0))) (.slice A5 ((digs 2 y.natAbs).length) c5), .own 3 A5 ((digs 2 y.natAbs).length) c5 (i64s (digs 2 y.natAbs)), .var 28 g3 (.bool (decide (x < 0))) (.slice A3 ((digs 2 x.natAbs).length) c3), .own 3 A3 ((digs 2 x.natAbs).length) c3 (i64s (digs 2 x.natAbs)), .var 24 (w.heap.size + 1) (.bool nb) (.slice Ab n_b cb), .var 24 w.heap.size (.bool na) (.slice Aa n_a ca)]) := Lib.hid (Ev.var HE24.out 28 (.bool false) (.slice none 0 0))
  go_upto_region 15 with fail
  generalize (w24'.alloc (.cells #[.bool false, .slice none 0 0] 28)) = w25 at *
  generalize w24'.heap.size = g25 at *
  obtain ⟨x26a, x26b, x26c, x26d⟩ := HE25.out.cells (.tail _ (.tail _ (.tail _ (.tail _ (.tail _ (.tail _ (.tail _ (.head _))))))))
  go_upto_region 16 with fail
  clear x26a x26b x26c x26d
  obtain ⟨x28a, x28b, x28c, x28d⟩ := HE25.out.cells (.tail _ (.tail _ (.tail _ (.tail _ (.tail _ (.tail _ (.tail _ (.head _))))))))
  obtain ⟨x29a, x29b, x29c, x29d⟩ := HE25.out.cells (.head _)
  go_wp2_with fail
  refine (rShift_any (bits_sl (HE25.out.has (.tail _ (.tail _ (.tail _ (.tail _ (.tail _ (.tail _ (.tail _ (.tail _ (.head _))))))))))) (Nat.le_refl _) (own_none (HE25.out.has (.tail _ (.tail _ (.tail _ (.tail _ (.tail _ (.tail _ (.tail _ (.tail _ (.head _))))))))))) HX0.out HXS.out kn HKN.out.1 HK9.out HSZ.out).mono ?_
  rintro ex w27' ⟨As27, cs27, rfl, hs27, hap27, hb27⟩
  obtain ⟨y27a, y27b, y27c, y27d⟩ := (HE25.out.below hb27).cells (.head _)
  have HE27 : Hid (Ev w ((w27'.setCell ⟨g25, 0, none⟩ (.bool (decide (sz < 0)))).setCell ⟨g25, 1, none⟩ (.slice As27 (digs 2 sz.natAbs).length cs27)) [.var 28 g25 (.bool (decide (sz < 0))) (.slice As27 ((digs 2 sz.natAbs).length) cs27), .var 24 g17 (.bool neg17) (.slice A17 n17 c17), .own 48 A17 n17 c17 (u32s l17), .var 24 g15 (.bool neg15) (.slice A15 n15 c15), .var 24 g13 (.bool neg13) (.slice A13 n13 c13), .var 28 g5 (.bool (decide (y < 0))) (.slice A5 ((digs 2 y.natAbs).length) c5), .own 3 A5 ((digs 2 y.natAbs).length) c5 (i64s (digs 2 y.natAbs)), .var 28 g3 (.bool (decide (x < 0))) (.slice A3 ((digs 2 x.natAbs).length) c3), .own 3 A3 ((digs 2 x.natAbs).length) c3 (i64s (digs 2 x.natAbs)), .var 24 (w.heap.size + 1) (.bool nb) (.slice Ab n_b cb), .var 24 w.heap.size (.bool na) (.slice Aa n_a ca)]) := Lib.hid (Ev.store [] [.var 24 g17 (.bool neg17) (.slice A17 n17 c17), .own 48 A17 n17 c17 (u32s l17), .var 24 g15 (.bool neg15) (.slice A15 n15 c15), .var 24 g13 (.bool neg13) (.slice A13 n13 c13), .var 28 g5 (.bool (decide (y < 0))) (.slice A5 ((digs 2 y.natAbs).length) c5), .own 3 A5 ((digs 2 y.natAbs).length) c5 (i64s (digs 2 y.natAbs)), .var 28 g3 (.bool (decide (x < 0))) (.slice A3 ((digs 2 x.natAbs).length) c3), .own 3 A3 ((digs 2 x.natAbs).length) c3 (i64s (digs 2 x.natAbs)), .var 24 (w.heap.size + 1) (.bool nb) (.slice Ab n_b cb), .var 24 w.heap.size (.bool na) (.slice Aa n_a ca)] (HE25.out.below hb27) (.bool (decide (sz < 0))) (.slice As27 (digs 2 sz.natAbs).length cs27))
  have hne27 : digs 2 sz.natAbs ≠ [] → ∀ b o, As27 = some ⟨b, o, none⟩ → b ≠ g25 := fun h b o e => by
    have hlt := (HE25.out.2.1 _ (.head _)).2 _ rfl
    rcases hap27 h b o e with ⟨o', h2⟩ | h2
    · exact ev_apart HE25.out (.tail _ (.tail _ (.tail _ (.tail _ (.tail _ (.tail _ (.tail _ (.tail _ (.head _))))))))) (.head _) h2
    · omega
  have HR27 := Lib.hid (sl_set2 hs27 hne27 (.bool (decide (sz < 0))) (.slice As27 (digs 2 sz.natAbs).length cs27))
  clear hs27 hap27 hb27 hne27 x28a x28b x28c x28d x29a x29b x29c x29d
  go_upto_region 20 with fail
  clear y27a y27b y27c y27d
  generalize ((w27'.setCell ⟨g25, 0, none⟩ (.bool (decide (sz < 0)))).setCell ⟨g25, 1, none⟩ (.slice As27 (digs 2 sz.natAbs).length cs27)) = w27 at *
  obtain ⟨x30a, x30b, x30c, x30d⟩ := HE27.out.cells (.tail _ (.head _))
  obtain ⟨x31a, x31b, x31c, x31d⟩ := HE27.out.cells (.head _)
  go_wp2_with fail
  refine (is_w (HE27.out.has (.tail _ (.tail _ (.head _)))) HE27.out.b.size HG17.out HR27.out (Nat.le_refl _) HCS.out).mono ?_
  rintro ex w32' ⟨rfl, hg32⟩
  have HE32 : Hid (Ev w w32' [.var 28 g25 (.bool (decide (sz < 0))) (.slice As27 ((digs 2 sz.natAbs).length) cs27), .var 24 g17 (.bool neg17) (.slice A17 n17 c17), .var 24 g15 (.bool neg15) (.slice A15 n15 c15), .var 24 g13 (.bool neg13) (.slice A13 n13 c13), .var 28 g5 (.bool (decide (y < 0))) (.slice A5 ((digs 2 y.natAbs).length) c5), .own 3 A5 ((digs 2 y.natAbs).length) c5 (i64s (digs 2 y.natAbs)), .var 28 g3 (.bool (decide (x < 0))) (.slice A3 ((digs 2 x.natAbs).length) c3), .own 3 A3 ((digs 2 x.natAbs).length) c3 (i64s (digs 2 x.natAbs)), .var 24 (w.heap.size + 1) (.bool nb) (.slice Ab n_b cb), .var 24 w.heap.size (.bool na) (.slice Aa n_a ca)]) := Lib.hid (Ev.spend [.var 28 g25 (.bool (decide (sz < 0))) (.slice As27 ((digs 2 sz.natAbs).length) cs27), .var 24 g17 (.bool neg17) (.slice A17 n17 c17)] (.own 48 A17 n17 c17 (u32s l17)) [.var 24 g15 (.bool neg15) (.slice A15 n15 c15), .var 24 g13 (.bool neg13) (.slice A13 n13 c13), .var 28 g5 (.bool (decide (y < 0))) (.slice A5 ((digs 2 y.natAbs).length) c5), .own 3 A5 ((digs 2 y.natAbs).length) c5 (i64s (digs 2 y.natAbs)), .var 28 g3 (.bool (decide (x < 0))) (.slice A3 ((digs 2 x.natAbs).length) c3), .own 3 A3 ((digs 2 x.natAbs).length) c3 (i64s (digs 2 x.natAbs)), .var 24 (w.heap.size + 1) (.bool nb) (.slice Ab n_b cb), .var 24 w.heap.size (.bool na) (.slice Aa n_a ca)] HE27.out hg32)
  clear hg32 x30a x30b x30c x30d x31a x31b x31c x31d
  go_upto_region 21 with fail
  go_wp2
  go_ret
  exact ⟨rfl, HE32.out.b⟩
theorem Powers_walk (na nb : Bool) {Aa Ab : Option Addr} {la lb : List Nat} {n_a ca n_b cb : Nat} {w : World} (hsa : SlU w w.heap.size Aa n_a ca la) (hsb : SlU w w.heap.size Ab n_b cb lb) (_hAa : Aa = none → ca = 0) (_hAb : Ab = none → cb = 0) (kn : Int) (hkn : -9223372036854775808 ≤ kn ∧ kn ≤ 9223372036854775807) (hna : n_a ≤ 1048576) (hnb : n_b ≤ 1048576) :
    Calls Try.prog 10 #[.agg #[.bool na, .slice Aa n_a ca], .agg #[.bool nb, .slice Ab n_b cb], .int .i64 kn] w fun e w' => e = .returned (.bool true) ∧ Below w.heap.size w w' := by
  cases hlx : tooLong (ival na la)
  · cases hly : tooLong (ival nb lb)
    · by_cases hx0 : ival na la = 0
      · exact Powers_ss_t2 na nb kn hkn rfl rfl hsa hsb hna hnb hlx hly hx0
      · by_cases hkb : 4096 < kn
        · exact Powers_ss_t3 na nb kn hkn rfl rfl hsa hsb hna hnb hlx hly hx0 hkb
        · exact Powers_ss_t4 na nb kn hkn rfl rfl hsa hsb hna hnb hlx hly hx0 (by omega)
    · by_cases hx0 : ival na la = 0
      · exact Powers_yl_t2 na nb kn hkn rfl rfl hsa hsb hna hnb hlx hly hx0
      · by_cases hkb : 4096 < kn
        · exact Powers_yl_t3 na nb kn hkn rfl rfl hsa hsb hna hnb hlx hly hx0 hkb
        · exact Powers_yl_t4 na nb kn hkn rfl rfl hsa hsb hna hnb hlx hly hx0 (by omega)
  · exact Powers_xl_t1 na nb kn hkn rfl rfl hsa hsb hna hnb hlx
end Go.Proofs.Ytggdmhkdmkldoaa
