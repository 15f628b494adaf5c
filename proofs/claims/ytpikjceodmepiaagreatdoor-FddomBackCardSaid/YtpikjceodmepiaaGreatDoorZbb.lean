import Derived.Test.YtpikjceodmepiaaGreatDoorZab
set_option linter.unusedVariables false
set_option linter.unusedSimpArgs false
namespace Go.Proofs.YtpikjceodmepiaaGreatDoor
open Go.RowKit Hb Hf
set_option linter.unusedVariables false
set_option linter.unusedSimpArgs false
attribute [local go_sem ↓] Go.wp_at_zero Go.wp_at_succ
/-! ### the chapter's examples: plain -/
theorem aw_a (z : Int) : Hf.mem z [(.num 5, .num 7), (.num 3, .num 4), (.num 9, .num 8), (.num 7, .num 10)] ↔ Hf.mem z [(.num 3, .num 10)] := by
  simp [Hf.mem, inR, lob, hib]; omega
theorem aw_a_nf : NF [(.num 3, .num 10)] := ⟨3, by simp [inR, lob, hib]⟩
theorem aw_b (z : Int) : (memB z [(.lo, .num 5)] && memB z [(.num 3, .num 10)]) = true ↔ Hf.mem z [(.num 3, .num 5)] := by
  rw [Bool.and_eq_true, memB_iff, memB_iff]
  simp [Hf.mem, inR, lob, hib]; omega
theorem aw_b_nf : NF [(.num 3, .num 5)] := ⟨3, by simp [inR, lob, hib]⟩
theorem aw_n_nf : NF [(.num 1, .num 3), (.num 5, .num 5)] := ⟨⟨1, by simp [inR, lob, hib]⟩, ⟨3, 5, rfl, rfl, by omega⟩, ⟨5, by simp [inR, lob, hib]⟩⟩
theorem aw_n_fin : Hf.fin [(.num 1, .num 3), (.num 5, .num 5)] := fun r hr => by
  simp only [List.mem_cons, List.not_mem_nil, or_false] at hr
  rcases hr with rfl | rfl
  · exact ⟨1, 3, rfl⟩
  · exact ⟨5, 5, rfl⟩
theorem aw_n_size : sizeP [(.num 1, .num 3), (.num 5, .num 5)] = 4 := by decide
theorem aw_s_nf : NF [(.num 1, .num 3), (.num 7, .num 7)] := ⟨⟨1, by simp [inR, lob, hib]⟩, ⟨3, 7, rfl, rfl, by omega⟩, ⟨7, by simp [inR, lob, hib]⟩⟩
theorem aw_s (z : Int) : Hf.mem z ([(.num 1, .num 3), (.num 7, .num 7)].map (scR (-2))) ↔ Hf.mem z [(.num (-14), .num (-14)), (.num (-6), .num (-2))] := by
  simp [Hf.mem, inR, lob, hib, scR, mulE]; omega
theorem aw_t_nf : NF [(.num (-14), .num (-14)), (.num (-6), .num (-2))] := ⟨⟨-14, by simp [inR, lob, hib]⟩, ⟨-14, -6, rfl, rfl, by omega⟩, ⟨-6, by simp [inR, lob, hib]⟩⟩
/-- normal, and of at most one limb -/
def Sml (b : Bd) : Prop := b.Nrm ∧ szE b.ed ≤ 1
theorem sml_nb {z : Int} {A : Option Addr} {c : Nat} (h : z.natAbs < 4294967296) : Sml (nb z A c) := ⟨nb_nrm _ _ _, by rw [nb_ed]; exact szE_small h⟩
theorem sml_ib {i : Int} (h : i = -1 ∨ i = 1) : Sml (ib i) := ⟨ib_nrm h, by rcases h with h | h <;> subst h <;> simp [Bd.ed, ib, szE]⟩
theorem SIn.of {w : World} {P : Nat → Prop} {A : Option Addr} {n c K M : Nat} {ps : List Rg} (h : SetP w P A n c ps) (hs : ∀ p ∈ ps, Sml p.1 ∧ Sml p.2) (hn : n ≤ K) (hM : 1 ≤ M) : SIn w P A n c ps K M := by
  refine ⟨h, fun p hp => ?_, hn, fun r hr => ?_⟩
  · have h1 := hs p hp
    have h2 := h.kid p hp
    have h3 := h1.1.1.szE h2.a.lim.len
    have h4 := h1.2.1.szE h2.b.lim.len
    have h5 := h1.1.2
    have h6 := h1.2.2
    exact ⟨fun _ => by omega, fun _ => by omega⟩
  · obtain ⟨p, hp, rfl⟩ := List.mem_map.1 hr
    have h1 := hs p hp
    exact ⟨Nat.le_trans h1.1.2 hM, Nat.le_trans h1.2.2 hM⟩
theorem SIn.more {w : World} {P : Nat → Prop} {A : Option Addr} {n c K M K' M' : Nat} {ps : List Rg} (h : SIn w P A n c ps K M) (hK : K ≤ K') (hM : M ≤ M') : SIn w P A n c ps K' M' :=
  ⟨h.set, h.szs, Nat.le_trans h.len hK, fun r hr => ⟨Nat.le_trans (h.bnd r hr).1 hM, Nat.le_trans (h.bnd r hr).2 hM⟩⟩
theorem Bd.At.low {w : World} {B B' : Nat} {p : Bd} (h : p.At w (Fr B w)) (hB : B' ≤ B) : p.At w (Fr B' w) :=
  h.keep fun x hx => ⟨⟨Nat.le_trans hB hx.1, hx.2⟩, rfl⟩
theorem IBox.of_new {w : World} (x : Bool) (y : Value) : IBox (w.alloc (.cells #[.bool x, y] 56)) w.heap.size x y := heap_alloc_new w _
theorem SOut.more {w : World} {B : Nat} {A : Option Addr} {n c K M K' M' : Nat} {ps : List Rg} (h : SOut w B A n c ps K M) (hK : K ≤ K') (hM : M ≤ M') : SOut w B A n c ps K' M' :=
  ⟨h.row, h.gd, h.nf, Nat.le_trans h.len hK, fun r hr => ⟨Nat.le_trans (h.bnd r hr).1 hM, Nat.le_trans (h.bnd r hr).2 hM⟩⟩
theorem SOut.lift {w w' : World} {B : Nat} {A : Option Addr} {n c K M : Nat} {qs : List Rg} (h : SOut w B A n c qs K M) (hb : Below w.heap.size w w') : SOut w' B A n c qs K M := h.below hb
theorem IBox.lift {w w' : World} {g : Nat} {x : Bool} {y : Value} (h : IBox w g x y) (hb : Below w.heap.size w w') : IBox w' g x y := h.below hb
theorem SetP.lift {w w' : World} {B : Nat} {A : Option Addr} {n c : Nat} {ps : List Rg} (h : SetP w (Fr B w) A n c ps) (hb : Below w.heap.size w w') : SetP w' (Fr B w') A n c ps :=
  h.keep fun x hx => ⟨⟨hx.1, Nat.lt_of_lt_of_le hx.2 hb.size⟩, hb.block x hx.2⟩
theorem SIn.lift {w w' : World} {B : Nat} {A : Option Addr} {n c K M : Nat} {ps : List Rg} (h : SIn w (Fr B w) A n c ps K M) (hb : Below w.heap.size w w') : SIn w' (Fr B w') A n c ps K M :=
  ⟨h.set.lift hb, h.szs, h.len, h.bnd⟩
set_option maxRecDepth 100000 in
set_option maxHeartbeats 8000000 in
theorem awake_ok {w : World} : Calls Tryz.prog 5 #[] w fun e w' => e = .returned (.bool true) ∧ Below w.heap.size w w' := by
  obtain ⟨B, hB⟩ : ∃ B, w.heap.size = B := ⟨_, rfl⟩
  have HB0 := Lib.hid (show Below B w w from hB ▸ Below.refl _ _)
  have hS0 : B ≤ w.heap.size := by omega
  obtain ⟨z5, hz5⟩ : ∃ z : Int, z = 5 := ⟨_, rfl⟩
  have Ez5 := Lib.hid hz5
  have Nz5 := Lib.hid (show z5.natAbs < 4294967296 from by omega)
  obtain ⟨z7, hz7⟩ : ∃ z : Int, z = 7 := ⟨_, rfl⟩
  have Ez7 := Lib.hid hz7
  have Nz7 := Lib.hid (show z7.natAbs < 4294967296 from by omega)
  obtain ⟨z3, hz3⟩ : ∃ z : Int, z = 3 := ⟨_, rfl⟩
  have Ez3 := Lib.hid hz3
  have Nz3 := Lib.hid (show z3.natAbs < 4294967296 from by omega)
  obtain ⟨z4, hz4⟩ : ∃ z : Int, z = 4 := ⟨_, rfl⟩
  have Ez4 := Lib.hid hz4
  have Nz4 := Lib.hid (show z4.natAbs < 4294967296 from by omega)
  obtain ⟨z9, hz9⟩ : ∃ z : Int, z = 9 := ⟨_, rfl⟩
  have Ez9 := Lib.hid hz9
  have Nz9 := Lib.hid (show z9.natAbs < 4294967296 from by omega)
  obtain ⟨z8, hz8⟩ : ∃ z : Int, z = 8 := ⟨_, rfl⟩
  have Ez8 := Lib.hid hz8
  have Nz8 := Lib.hid (show z8.natAbs < 4294967296 from by omega)
  obtain ⟨z10, hz10⟩ : ∃ z : Int, z = 10 := ⟨_, rfl⟩
  have Ez10 := Lib.hid hz10
  have Nz10 := Lib.hid (show z10.natAbs < 4294967296 from by omega)
  obtain ⟨z1, hz1⟩ : ∃ z : Int, z = 1 := ⟨_, rfl⟩
  have Ez1 := Lib.hid hz1
  have Nz1 := Lib.hid (show z1.natAbs < 4294967296 from by omega)
  obtain ⟨m14, hm14⟩ : ∃ z : Int, z = (-14) := ⟨_, rfl⟩
  have Em14 := Lib.hid hm14
  have Nm14 := Lib.hid (show m14.natAbs < 4294967296 from by omega)
  obtain ⟨m6, hm6⟩ : ∃ z : Int, z = (-6) := ⟨_, rfl⟩
  have Em6 := Lib.hid hm6
  have Nm6 := Lib.hid (show m6.natAbs < 4294967296 from by omega)
  obtain ⟨m2, hm2⟩ : ∃ z : Int, z = (-2) := ⟨_, rfl⟩
  have Em2 := Lib.hid hm2
  have Nm2 := Lib.hid (show m2.natAbs < 4294967296 from by omega)
  have T_z5_z7 := Lib.hid (fun u => show Calls Tryz.prog 25 #[.int .i64 5, .int .i64 7] u (RangePost z5 z7 u) from by rw [hz5, hz7]; exact to_ok 5 7 (by omega) (by omega) (by omega) (by omega))
  have T_z3_z4 := Lib.hid (fun u => show Calls Tryz.prog 25 #[.int .i64 3, .int .i64 4] u (RangePost z3 z4 u) from by rw [hz3, hz4]; exact to_ok 3 4 (by omega) (by omega) (by omega) (by omega))
  have T_z9_z8 := Lib.hid (fun u => show Calls Tryz.prog 25 #[.int .i64 9, .int .i64 8] u (RangePost z9 z8 u) from by rw [hz9, hz8]; exact to_ok 9 8 (by omega) (by omega) (by omega) (by omega))
  have T_z7_z10 := Lib.hid (fun u => show Calls Tryz.prog 25 #[.int .i64 7, .int .i64 10] u (RangePost z7 z10 u) from by rw [hz7, hz10]; exact to_ok 7 10 (by omega) (by omega) (by omega) (by omega))
  have T_z1_z3 := Lib.hid (fun u => show Calls Tryz.prog 25 #[.int .i64 1, .int .i64 3] u (RangePost z1 z3 u) from by rw [hz1, hz3]; exact to_ok 1 3 (by omega) (by omega) (by omega) (by omega))
  have T_z5_z5 := Lib.hid (fun u => show Calls Tryz.prog 25 #[.int .i64 5, .int .i64 5] u (RangePost z5 z5 u) from by rw [hz5]; exact to_ok 5 5 (by omega) (by omega) (by omega) (by omega))
  have T_z7_z7 := Lib.hid (fun u => show Calls Tryz.prog 25 #[.int .i64 7, .int .i64 7] u (RangePost z7 z7 u) from by rw [hz7]; exact to_ok 7 7 (by omega) (by omega) (by omega) (by omega))
  have T_z3_z10 := Lib.hid (fun u => show Calls Tryz.prog 25 #[.int .i64 3, .int .i64 10] u (RangePost z3 z10 u) from by rw [hz3, hz10]; exact to_ok 3 10 (by omega) (by omega) (by omega) (by omega))
  have T_z3_z5 := Lib.hid (fun u => show Calls Tryz.prog 25 #[.int .i64 3, .int .i64 5] u (RangePost z3 z5 u) from by rw [hz3, hz5]; exact to_ok 3 5 (by omega) (by omega) (by omega) (by omega))
  have T_m14_m14 := Lib.hid (fun u => show Calls Tryz.prog 25 #[.int .i64 (-14), .int .i64 (-14)] u (RangePost m14 m14 u) from by rw [hm14]; exact to_ok (-14) (-14) (by omega) (by omega) (by omega) (by omega))
  have T_m6_m2 := Lib.hid (fun u => show Calls Tryz.prog 25 #[.int .i64 (-6), .int .i64 (-2)] u (RangePost m6 m2 u) from by rw [hm6, hm2]; exact to_ok (-6) (-2) (by omega) (by omega) (by omega) (by omega))
  have F_z5 := Lib.hid (fun u => show Calls Tryz.prog 27 #[.int .i64 5] u (PostI u z5) from by rw [hz5]; exact from_any 5 u (by omega) (by omega))
  have F_m2 := Lib.hid (fun u => show Calls Tryz.prog 27 #[.int .i64 (-2)] u (PostI u m2) from by rw [hm2]; exact from_any (-2) u (by omega) (by omega))
  have F_z4 := Lib.hid (fun u => show Calls Tryz.prog 27 #[.int .i64 4] u (PostI u z4) from by rw [hz4]; exact from_any 4 u (by omega) (by omega))
  rw [hB]
  clear hB hz5 hz7 hz3 hz4 hz9 hz8 hz10 hz1 hm14 hm6 hm2
  go_enter Tryz.func5, Tryz.ntmps5
  go_wp2_with fail
  (with_reducible refine (T_z5_z7.out _).mono ?_)
  rintro e u1 ⟨Ata, Dta, cta, dta, he, hat, hb⟩
  subst he
  simp only [rgV, tR, nb, cells6_eq]
  have ta := Lib.hid (hat.low hS0)
  clear hat
  have HB1 := Lib.hid (HB0.out.trans (hb.mono hS0))
  have hS1 : B ≤ u1.heap.size := Nat.le_trans hS0 hb.size
  clear hb
  go_wp2_with fail
  (with_reducible refine (T_z3_z4.out _).mono ?_)
  rintro e u2 ⟨Atb, Dtb, ctb, dtb, he, hat, hb⟩
  subst he
  simp only [rgV, tR, nb, cells6_eq]
  have tb := Lib.hid (hat.low hS1)
  clear hat
  have HB2 := Lib.hid (HB1.out.trans (hb.mono hS1))
  have hS2 : B ≤ u2.heap.size := Nat.le_trans hS1 hb.size
  have ta' := Lib.hid (ta.out.lift hb)
  clear ta
  have ta := ta'
  clear ta'
  clear HB1 hS1
  clear hb
  go_wp2_with fail
  (with_reducible refine (T_z9_z8.out _).mono ?_)
  rintro e u3 ⟨Atc, Dtc, ctc, dtc, he, hat, hb⟩
  subst he
  simp only [rgV, tR, nb, cells6_eq]
  have tc := Lib.hid (hat.low hS2)
  clear hat
  have HB3 := Lib.hid (HB2.out.trans (hb.mono hS2))
  have hS3 : B ≤ u3.heap.size := Nat.le_trans hS2 hb.size
  have ta' := Lib.hid (ta.out.lift hb)
  clear ta
  have ta := ta'
  clear ta'
  have tb' := Lib.hid (tb.out.lift hb)
  clear tb
  have tb := tb'
  clear tb'
  clear HB2 hS2
  clear hb
  go_wp2_with fail
  (with_reducible refine (T_z7_z10.out _).mono ?_)
  rintro e u4 ⟨Atd, Dtd, ctd, dtd, he, hat, hb⟩
  subst he
  simp only [rgV, tR, nb, cells6_eq]
  have td := Lib.hid (hat.low hS3)
  clear hat
  have HB4 := Lib.hid (HB3.out.trans (hb.mono hS3))
  have hS4 : B ≤ u4.heap.size := Nat.le_trans hS3 hb.size
  have ta' := Lib.hid (ta.out.lift hb)
  clear ta
  have ta := ta'
  clear ta'
  have tb' := Lib.hid (tb.out.lift hb)
  clear tb
  have tb := tb'
  clear tb'
  have tc' := Lib.hid (tc.out.lift hb)
  clear tc
  have tc := tc'
  clear tc'
  clear HB3 hS3
  clear hb
  have hbb : Below u4.heap.size u4 (u4.alloc (.cells #[.int .i64 0, .bool (decide (z5 < 0)), .slice Ata (digs W z5.natAbs).length cta, .int .i64 0, .bool (decide (z7 < 0)), .slice Dta (digs W z7.natAbs).length dta, .int .i64 0, .bool (decide (z3 < 0)), .slice Atb (digs W z3.natAbs).length ctb, .int .i64 0, .bool (decide (z4 < 0)), .slice Dtb (digs W z4.natAbs).length dtb, .int .i64 0, .bool (decide (z9 < 0)), .slice Atc (digs W z9.natAbs).length ctc, .int .i64 0, .bool (decide (z8 < 0)), .slice Dtc (digs W z8.natAbs).length dtc, .int .i64 0, .bool (decide (z7 < 0)), .slice Atd (digs W z7.natAbs).length ctd, .int .i64 0, .bool (decide (z10 < 0)), .slice Dtd (digs W z10.natAbs).length dtd] 69)) := (Below.refl _ _).alloc (Nat.le_refl _) _
  have sa := Lib.hid (show SIn (u4.alloc (.cells #[.int .i64 0, .bool (decide (z5 < 0)), .slice Ata (digs W z5.natAbs).length cta, .int .i64 0, .bool (decide (z7 < 0)), .slice Dta (digs W z7.natAbs).length dta, .int .i64 0, .bool (decide (z3 < 0)), .slice Atb (digs W z3.natAbs).length ctb, .int .i64 0, .bool (decide (z4 < 0)), .slice Dtb (digs W z4.natAbs).length dtb, .int .i64 0, .bool (decide (z9 < 0)), .slice Atc (digs W z9.natAbs).length ctc, .int .i64 0, .bool (decide (z8 < 0)), .slice Dtc (digs W z8.natAbs).length dtc, .int .i64 0, .bool (decide (z7 < 0)), .slice Atd (digs W z7.natAbs).length ctd, .int .i64 0, .bool (decide (z10 < 0)), .slice Dtd (digs W z10.natAbs).length dtd] 69)) (Fr B (u4.alloc (.cells #[.int .i64 0, .bool (decide (z5 < 0)), .slice Ata (digs W z5.natAbs).length cta, .int .i64 0, .bool (decide (z7 < 0)), .slice Dta (digs W z7.natAbs).length dta, .int .i64 0, .bool (decide (z3 < 0)), .slice Atb (digs W z3.natAbs).length ctb, .int .i64 0, .bool (decide (z4 < 0)), .slice Dtb (digs W z4.natAbs).length dtb, .int .i64 0, .bool (decide (z9 < 0)), .slice Atc (digs W z9.natAbs).length ctc, .int .i64 0, .bool (decide (z8 < 0)), .slice Dtc (digs W z8.natAbs).length dtc, .int .i64 0, .bool (decide (z7 < 0)), .slice Atd (digs W z7.natAbs).length ctd, .int .i64 0, .bool (decide (z10 < 0)), .slice Dtd (digs W z10.natAbs).length dtd] 69))) (some ⟨u4.heap.size, 0, none⟩) 4 4 ([tR z5 z7 Ata Dta cta dta, tR z3 z4 Atb Dtb ctb dtb, tR z9 z8 Atc Dtc ctc dtc, tR z7 z10 Atd Dtd ctd dtd] : List Rg) 4 1 from SIn.of (SetP.built (w := u4) (B := B) (ps := [tR z5 z7 Ata Dta cta dta, tR z3 z4 Atb Dtb ctb dtb, tR z9 z8 Atc Dtc ctc dtc, tR z7 z10 Atd Dtd ctd dtd]) hS4 (List.forall_mem_cons.2 ⟨ta.out, List.forall_mem_cons.2 ⟨tb.out, List.forall_mem_cons.2 ⟨tc.out, List.forall_mem_cons.2 ⟨td.out, fun _ h => by cases h⟩⟩⟩⟩) (by simp)) (List.forall_mem_cons.2 ⟨⟨sml_nb Nz5.out, sml_nb Nz7.out⟩, List.forall_mem_cons.2 ⟨⟨sml_nb Nz3.out, sml_nb Nz4.out⟩, List.forall_mem_cons.2 ⟨⟨sml_nb Nz9.out, sml_nb Nz8.out⟩, List.forall_mem_cons.2 ⟨⟨sml_nb Nz7.out, sml_nb Nz10.out⟩, fun _ h => by cases h⟩⟩⟩⟩) (by omega) (by omega))
  clear ta
  clear tb
  clear tc
  clear td
  go_wp2_with fail
  obtain ⟨u5, hu5⟩ : ∃ u, (u4.alloc (.cells #[.int .i64 0, .bool (decide (z5 < 0)), .slice Ata (digs W z5.natAbs).length cta, .int .i64 0, .bool (decide (z7 < 0)), .slice Dta (digs W z7.natAbs).length dta, .int .i64 0, .bool (decide (z3 < 0)), .slice Atb (digs W z3.natAbs).length ctb, .int .i64 0, .bool (decide (z4 < 0)), .slice Dtb (digs W z4.natAbs).length dtb, .int .i64 0, .bool (decide (z9 < 0)), .slice Atc (digs W z9.natAbs).length ctc, .int .i64 0, .bool (decide (z8 < 0)), .slice Dtc (digs W z8.natAbs).length dtc, .int .i64 0, .bool (decide (z7 < 0)), .slice Atd (digs W z7.natAbs).length ctd, .int .i64 0, .bool (decide (z10 < 0)), .slice Dtd (digs W z10.natAbs).length dtd] 69)) = u := ⟨_, rfl⟩
  rw [hu5] at hbb sa ⊢
  have HB5 := Lib.hid (HB4.out.trans (hbb.mono hS4))
  have hS5 : B ≤ u5.heap.size := Nat.le_trans hS4 hbb.size
  clear HB4 hS4
  clear hbb hu5
  (with_reducible refine (Norm_ok sa.out (fun b hb => hb.2) (by omega) (by omega)).mono ?_)
  rintro e u6 ⟨Ara, nra, cra, qra, he, hso, hmm, hb⟩
  subst he
  have Xra := Lib.hid (show qra.map edsR = [(.num 3, .num 10)] from hso.nf.uniq aw_a_nf (fun y => by rw [hmm y, ← aw_a y]; simp only [List.map_cons, List.map_nil, edsR, tR, nb_ed, Ez5.out, Ez7.out, Ez3.out, Ez4.out, Ez9.out, Ez8.out, Ez10.out]))
  clear sa
  have ra := Lib.hid ((hso.lower hS5 : SOut u6 B Ara nra cra qra 4 1))
  have HB6 := Lib.hid (HB5.out.trans (hb.mono hS5))
  have hS6 : B ≤ u6.heap.size := Nat.le_trans hS5 hb.size
  clear HB5 hS5
  clear hb hso hmm
  go_wp2_with fail
  (with_reducible refine (F_z5.out _).mono ?_)
  rintro e u7 ⟨v, he, hr, hb⟩
  obtain ⟨Axa, cxa, hv, hat⟩ := hr.nb
  subst hv
  subst he
  have xa := Lib.hid (hat.low hS6)
  clear hat hr
  have HB7 := Lib.hid (HB6.out.trans (hb.mono hS6))
  have hS7 : B ≤ u7.heap.size := Nat.le_trans hS6 hb.size
  have ra' := Lib.hid (ra.out.lift hb)
  clear ra
  have ra := ra'
  clear ra'
  clear HB6 hS6
  clear hb
  have hbb : Below u7.heap.size u7 (u7.alloc (.cells #[.int .i64 (-1), .bool false, .slice none 0 0, .int .i64 0, .bool (decide (z5 < 0)), .slice Axa (digs W z5.natAbs).length cxa] 69)) := (Below.refl _ _).alloc (Nat.le_refl _) _
  have sb := Lib.hid (show SIn (u7.alloc (.cells #[.int .i64 (-1), .bool false, .slice none 0 0, .int .i64 0, .bool (decide (z5 < 0)), .slice Axa (digs W z5.natAbs).length cxa] 69)) (Fr B (u7.alloc (.cells #[.int .i64 (-1), .bool false, .slice none 0 0, .int .i64 0, .bool (decide (z5 < 0)), .slice Axa (digs W z5.natAbs).length cxa] 69))) (some ⟨u7.heap.size, 0, none⟩) 1 1 ([(ib (-1), nb z5 Axa cxa)] : List Rg) 4 1 from SIn.of (SetP.built (w := u7) (B := B) (ps := [(ib (-1), nb z5 Axa cxa)]) hS7 (List.forall_mem_cons.2 ⟨⟨ib_at _ _ (by omega), xa.out⟩, fun _ h => by cases h⟩) (by simp)) (List.forall_mem_cons.2 ⟨⟨sml_ib (by omega), sml_nb Nz5.out⟩, fun _ h => by cases h⟩) (by omega) (by omega))
  clear xa
  go_wp2_with fail
  obtain ⟨u8, hu8⟩ : ∃ u, (u7.alloc (.cells #[.int .i64 (-1), .bool false, .slice none 0 0, .int .i64 0, .bool (decide (z5 < 0)), .slice Axa (digs W z5.natAbs).length cxa] 69)) = u := ⟨_, rfl⟩
  rw [hu8] at hbb sb ⊢
  have HB8 := Lib.hid (HB7.out.trans (hbb.mono hS7))
  have hS8 : B ≤ u8.heap.size := Nat.le_trans hS7 hbb.size
  have ra' := Lib.hid (ra.out.lift hbb)
  clear ra
  have ra := ra'
  clear ra'
  clear HB7 hS7
  clear hbb hu8
  (with_reducible refine (Inter_ok (sb.out) (ra.out.sin) (fun b hb => hb.2) (by omega) (by omega)).mono ?_)
  rintro e u9 ⟨Arb, nrb, crb, qrb, he, hso, hmm, hb⟩
  subst he
  have Xrb := Lib.hid (show qrb.map edsR = [(.num 3, .num 5)] from hso.nf.uniq aw_b_nf (fun y => by rw [hmm y, Xra.out, ← aw_b y]; simp only [List.map_cons, List.map_nil, edsR, tR, nb_ed, Ez5.out]; rfl))
  clear sb
  have rb := Lib.hid ((hso.lower hS8 : SOut u9 B Arb nrb crb qrb 17 2))
  have HB9 := Lib.hid (HB8.out.trans (hb.mono hS8))
  have hS9 : B ≤ u9.heap.size := Nat.le_trans hS8 hb.size
  have ra' := Lib.hid (ra.out.lift hb)
  clear ra
  have ra := ra'
  clear ra'
  clear HB8 hS8
  clear hb hso hmm
  go_wp2_with fail
  (with_reducible refine (T_z1_z3.out _).mono ?_)
  rintro e u10 ⟨Ate, Dte, cte, dte, he, hat, hb⟩
  subst he
  simp only [rgV, tR, nb, cells6_eq]
  have te := Lib.hid (hat.low hS9)
  clear hat
  have HB10 := Lib.hid (HB9.out.trans (hb.mono hS9))
  have hS10 : B ≤ u10.heap.size := Nat.le_trans hS9 hb.size
  have ra' := Lib.hid (ra.out.lift hb)
  clear ra
  have ra := ra'
  clear ra'
  have rb' := Lib.hid (rb.out.lift hb)
  clear rb
  have rb := rb'
  clear rb'
  clear HB9 hS9
  clear hb
  go_wp2_with fail
  (with_reducible refine (T_z5_z5.out _).mono ?_)
  rintro e u11 ⟨Atf, Dtf, ctf, dtf, he, hat, hb⟩
  subst he
  simp only [rgV, tR, nb, cells6_eq]
  have tf := Lib.hid (hat.low hS10)
  clear hat
  have HB11 := Lib.hid (HB10.out.trans (hb.mono hS10))
  have hS11 : B ≤ u11.heap.size := Nat.le_trans hS10 hb.size
  have ra' := Lib.hid (ra.out.lift hb)
  clear ra
  have ra := ra'
  clear ra'
  have rb' := Lib.hid (rb.out.lift hb)
  clear rb
  have rb := rb'
  clear rb'
  have te' := Lib.hid (te.out.lift hb)
  clear te
  have te := te'
  clear te'
  clear HB10 hS10
  clear hb
  have hbb : Below u11.heap.size u11 (u11.alloc (.cells #[.int .i64 0, .bool (decide (z1 < 0)), .slice Ate (digs W z1.natAbs).length cte, .int .i64 0, .bool (decide (z3 < 0)), .slice Dte (digs W z3.natAbs).length dte, .int .i64 0, .bool (decide (z5 < 0)), .slice Atf (digs W z5.natAbs).length ctf, .int .i64 0, .bool (decide (z5 < 0)), .slice Dtf (digs W z5.natAbs).length dtf] 69)) := (Below.refl _ _).alloc (Nat.le_refl _) _
  have sc := Lib.hid (show SIn (u11.alloc (.cells #[.int .i64 0, .bool (decide (z1 < 0)), .slice Ate (digs W z1.natAbs).length cte, .int .i64 0, .bool (decide (z3 < 0)), .slice Dte (digs W z3.natAbs).length dte, .int .i64 0, .bool (decide (z5 < 0)), .slice Atf (digs W z5.natAbs).length ctf, .int .i64 0, .bool (decide (z5 < 0)), .slice Dtf (digs W z5.natAbs).length dtf] 69)) (Fr B (u11.alloc (.cells #[.int .i64 0, .bool (decide (z1 < 0)), .slice Ate (digs W z1.natAbs).length cte, .int .i64 0, .bool (decide (z3 < 0)), .slice Dte (digs W z3.natAbs).length dte, .int .i64 0, .bool (decide (z5 < 0)), .slice Atf (digs W z5.natAbs).length ctf, .int .i64 0, .bool (decide (z5 < 0)), .slice Dtf (digs W z5.natAbs).length dtf] 69))) (some ⟨u11.heap.size, 0, none⟩) 2 2 ([tR z1 z3 Ate Dte cte dte, tR z5 z5 Atf Dtf ctf dtf] : List Rg) 4 1 from SIn.of (SetP.built (w := u11) (B := B) (ps := [tR z1 z3 Ate Dte cte dte, tR z5 z5 Atf Dtf ctf dtf]) hS11 (List.forall_mem_cons.2 ⟨te.out, List.forall_mem_cons.2 ⟨tf.out, fun _ h => by cases h⟩⟩) (by simp)) (List.forall_mem_cons.2 ⟨⟨sml_nb Nz1.out, sml_nb Nz3.out⟩, List.forall_mem_cons.2 ⟨⟨sml_nb Nz5.out, sml_nb Nz5.out⟩, fun _ h => by cases h⟩⟩) (by omega) (by omega))
  clear te
  clear tf
  go_wp2_with fail
  obtain ⟨u12, hu12⟩ : ∃ u, (u11.alloc (.cells #[.int .i64 0, .bool (decide (z1 < 0)), .slice Ate (digs W z1.natAbs).length cte, .int .i64 0, .bool (decide (z3 < 0)), .slice Dte (digs W z3.natAbs).length dte, .int .i64 0, .bool (decide (z5 < 0)), .slice Atf (digs W z5.natAbs).length ctf, .int .i64 0, .bool (decide (z5 < 0)), .slice Dtf (digs W z5.natAbs).length dtf] 69)) = u := ⟨_, rfl⟩
  rw [hu12] at hbb sc ⊢
  have HB12 := Lib.hid (HB11.out.trans (hbb.mono hS11))
  have hS12 : B ≤ u12.heap.size := Nat.le_trans hS11 hbb.size
  have ra' := Lib.hid (ra.out.lift hbb)
  clear ra
  have ra := ra'
  clear ra'
  have rb' := Lib.hid (rb.out.lift hbb)
  clear rb
  have rb := rb'
  clear rb'
  clear HB11 hS11
  clear hbb hu12
  (with_reducible refine (Size_ok sc.out (fun b hb => hb.2) (by omega) (by omega)).mono ?_)
  rintro e u13 ⟨N, hnf, hmm, hb, hh⟩
  have hN : N = [(.num 1, .num 3), (.num 5, .num 5)] := hnf.uniq aw_n_nf (fun y => by rw [hmm y]; simp only [List.map_cons, List.map_nil, edsR, tR, nb_ed, Ez1.out, Ez3.out, Ez5.out])
  subst hN
  rw [aw_n_size, ← Ez4.out] at hh
  obtain ⟨Axb, cxb, he, ho⟩ : ∃ A c, e = .returned (.tuple #[.agg #[.bool (decide (z4 < 0)), .slice A (digs W z4.natAbs).length c], .bool true, .int .i64 0]) ∧ OwnU u13 _ A (digs W z4.natAbs).length c (u32s (digs W z4.natAbs)) := by
    rcases hh with ⟨_, h⟩ | ⟨h, _⟩
    · exact h
    · exact absurd aw_n_fin h
  subst he
  have xb := Lib.hid ((nb_at ho).low hS12)
  clear sc hh hnf hmm ho
  have HB13 := Lib.hid (HB12.out.trans (hb.mono hS12))
  have hS13 : B ≤ u13.heap.size := Nat.le_trans hS12 hb.size
  have ra' := Lib.hid (ra.out.lift hb)
  clear ra
  have ra := ra'
  clear ra'
  have rb' := Lib.hid (rb.out.lift hb)
  clear rb
  have rb := rb'
  clear rb'
  clear HB12 hS12
  clear hb
  go_wp2_with fail
  have hbb : Below u13.heap.size u13 (u13.alloc (.cells #[.bool (decide (z4 < 0)), .slice Axb (digs W z4.natAbs).length cxb] 56)) := (Below.refl _ _).alloc (Nat.le_refl _) _
  have bx := Lib.hid (IBox.of_new (w := u13) (decide (z4 < 0)) (.slice Axb (digs W z4.natAbs).length cxb))
  obtain ⟨G, hG⟩ : ∃ G, u13.heap.size = G := ⟨_, rfl⟩
  obtain ⟨u14, hu14⟩ : ∃ u, (u13.alloc (.cells #[.bool (decide (z4 < 0)), .slice Axb (digs W z4.natAbs).length cxb] 56)) = u := ⟨_, rfl⟩
  rw [hu14] at hbb bx ⊢
  have HB14 := Lib.hid (HB13.out.trans (hbb.mono hS13))
  have hS14 : B ≤ u14.heap.size := Nat.le_trans hS13 hbb.size
  have ra' := Lib.hid (ra.out.lift hbb)
  clear ra
  have ra := ra'
  clear ra'
  have rb' := Lib.hid (rb.out.lift hbb)
  clear rb
  have rb := rb'
  clear rb'
  have xb' := Lib.hid (xb.out.lift hbb)
  clear xb
  have xb := xb'
  clear xb'
  clear HB13 hS13
  clear hbb hu14
  rw [hG] at bx ⊢
  clear hG
  go_wp2_with fail
  (with_reducible refine (T_z1_z3.out _).mono ?_)
  rintro e u15 ⟨Atg, Dtg, ctg, dtg, he, hat, hb⟩
  subst he
  simp only [rgV, tR, nb, cells6_eq]
  have tg := Lib.hid (hat.low hS14)
  clear hat
  have HB15 := Lib.hid (HB14.out.trans (hb.mono hS14))
  have hS15 : B ≤ u15.heap.size := Nat.le_trans hS14 hb.size
  have ra' := Lib.hid (ra.out.lift hb)
  clear ra
  have ra := ra'
  clear ra'
  have rb' := Lib.hid (rb.out.lift hb)
  clear rb
  have rb := rb'
  clear rb'
  have xb' := Lib.hid (xb.out.lift hb)
  clear xb
  have xb := xb'
  clear xb'
  have bx' := Lib.hid (bx.out.lift hb)
  clear bx
  have bx := bx'
  clear bx'
  clear HB14 hS14
  clear hb
  go_wp2_with fail
  (with_reducible refine (T_z7_z7.out _).mono ?_)
  rintro e u16 ⟨Ath, Dth, cth, dth, he, hat, hb⟩
  subst he
  simp only [rgV, tR, nb, cells6_eq]
  have th := Lib.hid (hat.low hS15)
  clear hat
  have HB16 := Lib.hid (HB15.out.trans (hb.mono hS15))
  have hS16 : B ≤ u16.heap.size := Nat.le_trans hS15 hb.size
  have ra' := Lib.hid (ra.out.lift hb)
  clear ra
  have ra := ra'
  clear ra'
  have rb' := Lib.hid (rb.out.lift hb)
  clear rb
  have rb := rb'
  clear rb'
  have xb' := Lib.hid (xb.out.lift hb)
  clear xb
  have xb := xb'
  clear xb'
  have bx' := Lib.hid (bx.out.lift hb)
  clear bx
  have bx := bx'
  clear bx'
  have tg' := Lib.hid (tg.out.lift hb)
  clear tg
  have tg := tg'
  clear tg'
  clear HB15 hS15
  clear hb
  have hbb : Below u16.heap.size u16 (u16.alloc (.cells #[.int .i64 0, .bool (decide (z1 < 0)), .slice Atg (digs W z1.natAbs).length ctg, .int .i64 0, .bool (decide (z3 < 0)), .slice Dtg (digs W z3.natAbs).length dtg, .int .i64 0, .bool (decide (z7 < 0)), .slice Ath (digs W z7.natAbs).length cth, .int .i64 0, .bool (decide (z7 < 0)), .slice Dth (digs W z7.natAbs).length dth] 69)) := (Below.refl _ _).alloc (Nat.le_refl _) _
  have sd := Lib.hid (show SIn (u16.alloc (.cells #[.int .i64 0, .bool (decide (z1 < 0)), .slice Atg (digs W z1.natAbs).length ctg, .int .i64 0, .bool (decide (z3 < 0)), .slice Dtg (digs W z3.natAbs).length dtg, .int .i64 0, .bool (decide (z7 < 0)), .slice Ath (digs W z7.natAbs).length cth, .int .i64 0, .bool (decide (z7 < 0)), .slice Dth (digs W z7.natAbs).length dth] 69)) (Fr B (u16.alloc (.cells #[.int .i64 0, .bool (decide (z1 < 0)), .slice Atg (digs W z1.natAbs).length ctg, .int .i64 0, .bool (decide (z3 < 0)), .slice Dtg (digs W z3.natAbs).length dtg, .int .i64 0, .bool (decide (z7 < 0)), .slice Ath (digs W z7.natAbs).length cth, .int .i64 0, .bool (decide (z7 < 0)), .slice Dth (digs W z7.natAbs).length dth] 69))) (some ⟨u16.heap.size, 0, none⟩) 2 2 ([tR z1 z3 Atg Dtg ctg dtg, tR z7 z7 Ath Dth cth dth] : List Rg) 4 1 from SIn.of (SetP.built (w := u16) (B := B) (ps := [tR z1 z3 Atg Dtg ctg dtg, tR z7 z7 Ath Dth cth dth]) hS16 (List.forall_mem_cons.2 ⟨tg.out, List.forall_mem_cons.2 ⟨th.out, fun _ h => by cases h⟩⟩) (by simp)) (List.forall_mem_cons.2 ⟨⟨sml_nb Nz1.out, sml_nb Nz3.out⟩, List.forall_mem_cons.2 ⟨⟨sml_nb Nz7.out, sml_nb Nz7.out⟩, fun _ h => by cases h⟩⟩) (by omega) (by omega))
  clear tg
  clear th
  go_wp2_with fail
  obtain ⟨u17, hu17⟩ : ∃ u, (u16.alloc (.cells #[.int .i64 0, .bool (decide (z1 < 0)), .slice Atg (digs W z1.natAbs).length ctg, .int .i64 0, .bool (decide (z3 < 0)), .slice Dtg (digs W z3.natAbs).length dtg, .int .i64 0, .bool (decide (z7 < 0)), .slice Ath (digs W z7.natAbs).length cth, .int .i64 0, .bool (decide (z7 < 0)), .slice Dth (digs W z7.natAbs).length dth] 69)) = u := ⟨_, rfl⟩
  rw [hu17] at hbb sd ⊢
  have HB17 := Lib.hid (HB16.out.trans (hbb.mono hS16))
  have hS17 : B ≤ u17.heap.size := Nat.le_trans hS16 hbb.size
  have ra' := Lib.hid (ra.out.lift hbb)
  clear ra
  have ra := ra'
  clear ra'
  have rb' := Lib.hid (rb.out.lift hbb)
  clear rb
  have rb := rb'
  clear rb'
  have xb' := Lib.hid (xb.out.lift hbb)
  clear xb
  have xb := xb'
  clear xb'
  have bx' := Lib.hid (bx.out.lift hbb)
  clear bx
  have bx := bx'
  clear bx'
  clear HB16 hS16
  clear hbb hu17
  go_wp2_with fail
  (with_reducible refine (F_m2.out _).mono ?_)
  rintro e u18 ⟨v, he, hr, hb⟩
  obtain ⟨Axc, cxc, hv, hat⟩ := hr.nb
  subst hv
  subst he
  have xc := Lib.hid (hat.low hS17)
  clear hat hr
  have HB18 := Lib.hid (HB17.out.trans (hb.mono hS17))
  have hS18 : B ≤ u18.heap.size := Nat.le_trans hS17 hb.size
  have ra' := Lib.hid (ra.out.lift hb)
  clear ra
  have ra := ra'
  clear ra'
  have rb' := Lib.hid (rb.out.lift hb)
  clear rb
  have rb := rb'
  clear rb'
  have xb' := Lib.hid (xb.out.lift hb)
  clear xb
  have xb := xb'
  clear xb'
  have bx' := Lib.hid (bx.out.lift hb)
  clear bx
  have bx := bx'
  clear bx'
  have sd' := Lib.hid (sd.out.lift hb)
  clear sd
  have sd := sd'
  clear sd'
  clear HB17 hS17
  clear hb
  have hlm : LimP u18 (Fr B u18) Axc (digs W m2.natAbs).length cxc (digs W m2.natAbs) := xc.out.lim
  have hln : 1 + (digs W m2.natAbs).length ≤ 128 := (by have := szE_small Nm2.out; simp only [szE] at this; omega)
  go_wp2_with fail
  (with_reducible refine (Scale_ok (M := 1) (K := 4) (A' := Axc) (n' := (digs W m2.natAbs).length) (c' := cxc) (l := digs W m2.natAbs) sd.out hlm (fun b hb => hb.2) (by omega) hln (ival_digs m2) (by rw [Em2.out]; omega)).mono ?_)
  rintro e u19 ⟨Arc, nrc, crc, qrc, N, hnf, hmn, he, hso, hmm, hb⟩
  subst he
  have hN : N = [(.num 1, .num 3), (.num 7, .num 7)] := hnf.uniq aw_s_nf (fun y => by rw [hmn y]; simp only [List.map_cons, List.map_nil, edsR, tR, nb_ed, Ez1.out, Ez3.out, Ez7.out])
  subst hN
  have Xrc := Lib.hid (show qrc.map edsR = [(.num (-14), .num (-14)), (.num (-6), .num (-2))] from hso.nf.uniq aw_t_nf (fun y => by rw [hmm y, Em2.out]; exact aw_s y))
  clear sd hnf hmn hlm hln
  clear xc
  have hso := hso.more (K' := 4) (M' := 2) (Nat.le_refl _) (by have := szE_small Nm2.out; simp only [szE] at this; omega)
  have rc := Lib.hid ((hso.lower hS18 : SOut u19 B Arc nrc crc qrc 4 2))
  have HB19 := Lib.hid (HB18.out.trans (hb.mono hS18))
  have hS19 : B ≤ u19.heap.size := Nat.le_trans hS18 hb.size
  have ra' := Lib.hid (ra.out.lift hb)
  clear ra
  have ra := ra'
  clear ra'
  have rb' := Lib.hid (rb.out.lift hb)
  clear rb
  have rb := rb'
  clear rb'
  have xb' := Lib.hid (xb.out.lift hb)
  clear xb
  have xb := xb'
  clear xb'
  have bx' := Lib.hid (bx.out.lift hb)
  clear bx
  have bx := bx'
  clear bx'
  clear HB18 hS18
  clear hb hso hmm
  go_wp2_with fail
  (with_reducible refine (T_z3_z10.out _).mono ?_)
  rintro e u20 ⟨Ati, Dti, cti, dti, he, hat, hb⟩
  subst he
  simp only [rgV, tR, nb, cells6_eq]
  have ti := Lib.hid (hat.low hS19)
  clear hat
  have HB20 := Lib.hid (HB19.out.trans (hb.mono hS19))
  have hS20 : B ≤ u20.heap.size := Nat.le_trans hS19 hb.size
  have ra' := Lib.hid (ra.out.lift hb)
  clear ra
  have ra := ra'
  clear ra'
  have rb' := Lib.hid (rb.out.lift hb)
  clear rb
  have rb := rb'
  clear rb'
  have xb' := Lib.hid (xb.out.lift hb)
  clear xb
  have xb := xb'
  clear xb'
  have bx' := Lib.hid (bx.out.lift hb)
  clear bx
  have bx := bx'
  clear bx'
  have rc' := Lib.hid (rc.out.lift hb)
  clear rc
  have rc := rc'
  clear rc'
  clear HB19 hS19
  clear hb
  have hbb : Below u20.heap.size u20 (u20.alloc (.cells #[.int .i64 0, .bool (decide (z3 < 0)), .slice Ati (digs W z3.natAbs).length cti, .int .i64 0, .bool (decide (z10 < 0)), .slice Dti (digs W z10.natAbs).length dti] 69)) := (Below.refl _ _).alloc (Nat.le_refl _) _
  have se := Lib.hid (show SIn (u20.alloc (.cells #[.int .i64 0, .bool (decide (z3 < 0)), .slice Ati (digs W z3.natAbs).length cti, .int .i64 0, .bool (decide (z10 < 0)), .slice Dti (digs W z10.natAbs).length dti] 69)) (Fr B (u20.alloc (.cells #[.int .i64 0, .bool (decide (z3 < 0)), .slice Ati (digs W z3.natAbs).length cti, .int .i64 0, .bool (decide (z10 < 0)), .slice Dti (digs W z10.natAbs).length dti] 69))) (some ⟨u20.heap.size, 0, none⟩) 1 1 ([tR z3 z10 Ati Dti cti dti] : List Rg) 4 1 from SIn.of (SetP.built (w := u20) (B := B) (ps := [tR z3 z10 Ati Dti cti dti]) hS20 (List.forall_mem_cons.2 ⟨ti.out, fun _ h => by cases h⟩) (by simp)) (List.forall_mem_cons.2 ⟨⟨sml_nb Nz3.out, sml_nb Nz10.out⟩, fun _ h => by cases h⟩) (by omega) (by omega))
  clear ti
  go_wp2_with fail
  obtain ⟨u21, hu21⟩ : ∃ u, (u20.alloc (.cells #[.int .i64 0, .bool (decide (z3 < 0)), .slice Ati (digs W z3.natAbs).length cti, .int .i64 0, .bool (decide (z10 < 0)), .slice Dti (digs W z10.natAbs).length dti] 69)) = u := ⟨_, rfl⟩
  rw [hu21] at hbb se ⊢
  have HB21 := Lib.hid (HB20.out.trans (hbb.mono hS20))
  have hS21 : B ≤ u21.heap.size := Nat.le_trans hS20 hbb.size
  have ra' := Lib.hid (ra.out.lift hbb)
  clear ra
  have ra := ra'
  clear ra'
  have rb' := Lib.hid (rb.out.lift hbb)
  clear rb
  have rb := rb'
  clear rb'
  have xb' := Lib.hid (xb.out.lift hbb)
  clear xb
  have xb := xb'
  clear xb'
  have bx' := Lib.hid (bx.out.lift hbb)
  clear bx
  have bx := bx'
  clear bx'
  have rc' := Lib.hid (rc.out.lift hbb)
  clear rc
  have rc := rc'
  clear rc'
  clear HB20 hS20
  clear hbb hu21
  have hg1 : ∀ q ∈ qra, q.1.Nrm ∧ q.2.Nrm := fun q hq => (ra.out.gd q hq).1
  have hg2 : ∀ q ∈ ([tR z3 z10 Ati Dti cti dti] : List Rg), q.1.Nrm ∧ q.2.Nrm := List.forall_mem_cons.2 ⟨⟨nb_nrm _ _ _, nb_nrm _ _ _⟩, fun _ h => by cases h⟩
  (with_reducible refine (sameRanges_true (qs := [tR z3 z10 Ati Dti cti dti]) ra.out.set se.out.set (fun b hb => hb.2) hg1 hg2 (by rw [Xra.out]; simp only [List.map_cons, List.map_nil, edsR, tR, nb_ed, Ez3.out, Ez10.out])).mono ?_)
  rintro e u22 ⟨he, hb⟩
  subst he
  clear se hg1 hg2
  clear ra
  have HB22 := Lib.hid (HB21.out.trans (hb.mono hS21))
  have hS22 : B ≤ u22.heap.size := Nat.le_trans hS21 hb.size
  have rb' := Lib.hid (rb.out.lift hb)
  clear rb
  have rb := rb'
  clear rb'
  have xb' := Lib.hid (xb.out.lift hb)
  clear xb
  have xb := xb'
  clear xb'
  have bx' := Lib.hid (bx.out.lift hb)
  clear bx
  have bx := bx'
  clear bx'
  have rc' := Lib.hid (rc.out.lift hb)
  clear rc
  have rc := rc'
  clear rc'
  clear HB21 hS21
  clear hb
  go_wp2_with fail
  (with_reducible refine (T_z3_z5.out _).mono ?_)
  rintro e u23 ⟨Atj, Dtj, ctj, dtj, he, hat, hb⟩
  subst he
  simp only [rgV, tR, nb, cells6_eq]
  have tj := Lib.hid (hat.low hS22)
  clear hat
  have HB23 := Lib.hid (HB22.out.trans (hb.mono hS22))
  have hS23 : B ≤ u23.heap.size := Nat.le_trans hS22 hb.size
  have rb' := Lib.hid (rb.out.lift hb)
  clear rb
  have rb := rb'
  clear rb'
  have xb' := Lib.hid (xb.out.lift hb)
  clear xb
  have xb := xb'
  clear xb'
  have bx' := Lib.hid (bx.out.lift hb)
  clear bx
  have bx := bx'
  clear bx'
  have rc' := Lib.hid (rc.out.lift hb)
  clear rc
  have rc := rc'
  clear rc'
  clear HB22 hS22
  clear hb
  have hbb : Below u23.heap.size u23 (u23.alloc (.cells #[.int .i64 0, .bool (decide (z3 < 0)), .slice Atj (digs W z3.natAbs).length ctj, .int .i64 0, .bool (decide (z5 < 0)), .slice Dtj (digs W z5.natAbs).length dtj] 69)) := (Below.refl _ _).alloc (Nat.le_refl _) _
  have sf := Lib.hid (show SIn (u23.alloc (.cells #[.int .i64 0, .bool (decide (z3 < 0)), .slice Atj (digs W z3.natAbs).length ctj, .int .i64 0, .bool (decide (z5 < 0)), .slice Dtj (digs W z5.natAbs).length dtj] 69)) (Fr B (u23.alloc (.cells #[.int .i64 0, .bool (decide (z3 < 0)), .slice Atj (digs W z3.natAbs).length ctj, .int .i64 0, .bool (decide (z5 < 0)), .slice Dtj (digs W z5.natAbs).length dtj] 69))) (some ⟨u23.heap.size, 0, none⟩) 1 1 ([tR z3 z5 Atj Dtj ctj dtj] : List Rg) 4 1 from SIn.of (SetP.built (w := u23) (B := B) (ps := [tR z3 z5 Atj Dtj ctj dtj]) hS23 (List.forall_mem_cons.2 ⟨tj.out, fun _ h => by cases h⟩) (by simp)) (List.forall_mem_cons.2 ⟨⟨sml_nb Nz3.out, sml_nb Nz5.out⟩, fun _ h => by cases h⟩) (by omega) (by omega))
  clear tj
  go_wp2_with fail
  obtain ⟨u24, hu24⟩ : ∃ u, (u23.alloc (.cells #[.int .i64 0, .bool (decide (z3 < 0)), .slice Atj (digs W z3.natAbs).length ctj, .int .i64 0, .bool (decide (z5 < 0)), .slice Dtj (digs W z5.natAbs).length dtj] 69)) = u := ⟨_, rfl⟩
  rw [hu24] at hbb sf ⊢
  have HB24 := Lib.hid (HB23.out.trans (hbb.mono hS23))
  have hS24 : B ≤ u24.heap.size := Nat.le_trans hS23 hbb.size
  have rb' := Lib.hid (rb.out.lift hbb)
  clear rb
  have rb := rb'
  clear rb'
  have xb' := Lib.hid (xb.out.lift hbb)
  clear xb
  have xb := xb'
  clear xb'
  have bx' := Lib.hid (bx.out.lift hbb)
  clear bx
  have bx := bx'
  clear bx'
  have rc' := Lib.hid (rc.out.lift hbb)
  clear rc
  have rc := rc'
  clear rc'
  clear HB23 hS23
  clear hbb hu24
  have hg1 : ∀ q ∈ qrb, q.1.Nrm ∧ q.2.Nrm := fun q hq => (rb.out.gd q hq).1
  have hg2 : ∀ q ∈ ([tR z3 z5 Atj Dtj ctj dtj] : List Rg), q.1.Nrm ∧ q.2.Nrm := List.forall_mem_cons.2 ⟨⟨nb_nrm _ _ _, nb_nrm _ _ _⟩, fun _ h => by cases h⟩
  (with_reducible refine (sameRanges_true (qs := [tR z3 z5 Atj Dtj ctj dtj]) rb.out.set sf.out.set (fun b hb => hb.2) hg1 hg2 (by rw [Xrb.out]; simp only [List.map_cons, List.map_nil, edsR, tR, nb_ed, Ez3.out, Ez5.out])).mono ?_)
  rintro e u25 ⟨he, hb⟩
  subst he
  clear sf hg1 hg2
  clear rb
  have HB25 := Lib.hid (HB24.out.trans (hb.mono hS24))
  have hS25 : B ≤ u25.heap.size := Nat.le_trans hS24 hb.size
  have xb' := Lib.hid (xb.out.lift hb)
  clear xb
  have xb := xb'
  clear xb'
  have bx' := Lib.hid (bx.out.lift hb)
  clear bx
  have bx := bx'
  clear bx'
  have rc' := Lib.hid (rc.out.lift hb)
  clear rc
  have rc := rc'
  clear rc'
  clear HB24 hS24
  clear hb
  go_wp2_with fail
  (with_reducible refine (T_m14_m14.out _).mono ?_)
  rintro e u26 ⟨Atk, Dtk, ctk, dtk, he, hat, hb⟩
  subst he
  simp only [rgV, tR, nb, cells6_eq]
  have tk := Lib.hid (hat.low hS25)
  clear hat
  have HB26 := Lib.hid (HB25.out.trans (hb.mono hS25))
  have hS26 : B ≤ u26.heap.size := Nat.le_trans hS25 hb.size
  have xb' := Lib.hid (xb.out.lift hb)
  clear xb
  have xb := xb'
  clear xb'
  have bx' := Lib.hid (bx.out.lift hb)
  clear bx
  have bx := bx'
  clear bx'
  have rc' := Lib.hid (rc.out.lift hb)
  clear rc
  have rc := rc'
  clear rc'
  clear HB25 hS25
  clear hb
  go_wp2_with fail
  (with_reducible refine (T_m6_m2.out _).mono ?_)
  rintro e u27 ⟨Atl, Dtl, ctl, dtl, he, hat, hb⟩
  subst he
  simp only [rgV, tR, nb, cells6_eq]
  have tl := Lib.hid (hat.low hS26)
  clear hat
  have HB27 := Lib.hid (HB26.out.trans (hb.mono hS26))
  have hS27 : B ≤ u27.heap.size := Nat.le_trans hS26 hb.size
  have xb' := Lib.hid (xb.out.lift hb)
  clear xb
  have xb := xb'
  clear xb'
  have bx' := Lib.hid (bx.out.lift hb)
  clear bx
  have bx := bx'
  clear bx'
  have rc' := Lib.hid (rc.out.lift hb)
  clear rc
  have rc := rc'
  clear rc'
  have tk' := Lib.hid (tk.out.lift hb)
  clear tk
  have tk := tk'
  clear tk'
  clear HB26 hS26
  clear hb
  have hbb : Below u27.heap.size u27 (u27.alloc (.cells #[.int .i64 0, .bool (decide (m14 < 0)), .slice Atk (digs W m14.natAbs).length ctk, .int .i64 0, .bool (decide (m14 < 0)), .slice Dtk (digs W m14.natAbs).length dtk, .int .i64 0, .bool (decide (m6 < 0)), .slice Atl (digs W m6.natAbs).length ctl, .int .i64 0, .bool (decide (m2 < 0)), .slice Dtl (digs W m2.natAbs).length dtl] 69)) := (Below.refl _ _).alloc (Nat.le_refl _) _
  have sg := Lib.hid (show SIn (u27.alloc (.cells #[.int .i64 0, .bool (decide (m14 < 0)), .slice Atk (digs W m14.natAbs).length ctk, .int .i64 0, .bool (decide (m14 < 0)), .slice Dtk (digs W m14.natAbs).length dtk, .int .i64 0, .bool (decide (m6 < 0)), .slice Atl (digs W m6.natAbs).length ctl, .int .i64 0, .bool (decide (m2 < 0)), .slice Dtl (digs W m2.natAbs).length dtl] 69)) (Fr B (u27.alloc (.cells #[.int .i64 0, .bool (decide (m14 < 0)), .slice Atk (digs W m14.natAbs).length ctk, .int .i64 0, .bool (decide (m14 < 0)), .slice Dtk (digs W m14.natAbs).length dtk, .int .i64 0, .bool (decide (m6 < 0)), .slice Atl (digs W m6.natAbs).length ctl, .int .i64 0, .bool (decide (m2 < 0)), .slice Dtl (digs W m2.natAbs).length dtl] 69))) (some ⟨u27.heap.size, 0, none⟩) 2 2 ([tR m14 m14 Atk Dtk ctk dtk, tR m6 m2 Atl Dtl ctl dtl] : List Rg) 4 1 from SIn.of (SetP.built (w := u27) (B := B) (ps := [tR m14 m14 Atk Dtk ctk dtk, tR m6 m2 Atl Dtl ctl dtl]) hS27 (List.forall_mem_cons.2 ⟨tk.out, List.forall_mem_cons.2 ⟨tl.out, fun _ h => by cases h⟩⟩) (by simp)) (List.forall_mem_cons.2 ⟨⟨sml_nb Nm14.out, sml_nb Nm14.out⟩, List.forall_mem_cons.2 ⟨⟨sml_nb Nm6.out, sml_nb Nm2.out⟩, fun _ h => by cases h⟩⟩) (by omega) (by omega))
  clear tk
  clear tl
  go_wp2_with fail
  obtain ⟨u28, hu28⟩ : ∃ u, (u27.alloc (.cells #[.int .i64 0, .bool (decide (m14 < 0)), .slice Atk (digs W m14.natAbs).length ctk, .int .i64 0, .bool (decide (m14 < 0)), .slice Dtk (digs W m14.natAbs).length dtk, .int .i64 0, .bool (decide (m6 < 0)), .slice Atl (digs W m6.natAbs).length ctl, .int .i64 0, .bool (decide (m2 < 0)), .slice Dtl (digs W m2.natAbs).length dtl] 69)) = u := ⟨_, rfl⟩
  rw [hu28] at hbb sg ⊢
  have HB28 := Lib.hid (HB27.out.trans (hbb.mono hS27))
  have hS28 : B ≤ u28.heap.size := Nat.le_trans hS27 hbb.size
  have xb' := Lib.hid (xb.out.lift hbb)
  clear xb
  have xb := xb'
  clear xb'
  have bx' := Lib.hid (bx.out.lift hbb)
  clear bx
  have bx := bx'
  clear bx'
  have rc' := Lib.hid (rc.out.lift hbb)
  clear rc
  have rc := rc'
  clear rc'
  clear HB27 hS27
  clear hbb hu28
  have hg1 : ∀ q ∈ qrc, q.1.Nrm ∧ q.2.Nrm := fun q hq => (rc.out.gd q hq).1
  have hg2 : ∀ q ∈ ([tR m14 m14 Atk Dtk ctk dtk, tR m6 m2 Atl Dtl ctl dtl] : List Rg), q.1.Nrm ∧ q.2.Nrm := List.forall_mem_cons.2 ⟨⟨nb_nrm _ _ _, nb_nrm _ _ _⟩, List.forall_mem_cons.2 ⟨⟨nb_nrm _ _ _, nb_nrm _ _ _⟩, fun _ h => by cases h⟩⟩
  (with_reducible refine (sameRanges_true (qs := [tR m14 m14 Atk Dtk ctk dtk, tR m6 m2 Atl Dtl ctl dtl]) rc.out.set sg.out.set (fun b hb => hb.2) hg1 hg2 (by rw [Xrc.out]; simp only [List.map_cons, List.map_nil, edsR, tR, nb_ed, Em14.out, Em6.out, Em2.out])).mono ?_)
  rintro e u29 ⟨he, hb⟩
  subst he
  clear sg hg1 hg2
  clear rc
  have HB29 := Lib.hid (HB28.out.trans (hb.mono hS28))
  have hS29 : B ≤ u29.heap.size := Nat.le_trans hS28 hb.size
  have xb' := Lib.hid (xb.out.lift hb)
  clear xb
  have xb := xb'
  clear xb'
  have bx' := Lib.hid (bx.out.lift hb)
  clear bx
  have bx := bx'
  clear bx'
  clear HB28 hS28
  clear hb
  go_wp2_with fail
  refine wp_region_H (by kernel_rfl) (fun z0 K0 hs0 => ?_)
  refine tkH 0 (v := ?tv0_1) K0 rfl (by kernel_rfl) ?tq0_1 (by kernel_rfl) (fun z5 hS => ?ty0_1) ?_
  case ty0_1 => go_simp; rfl
  case tq0_1 => exact fun _ _ _ h => h
  refine tkH 1 (v := ?tv1_2) K0 rfl (by kernel_rfl) ?tq1_2 (by kernel_rfl) (fun z5 hS => ?ty1_2) ?_
  case ty1_2 => go_simp; rfl
  case tq1_2 => exact fun _ _ _ h => h
  refine tkH 2 (v := ?tv2_3) K0 rfl (by kernel_rfl) ?tq2_3 (by kernel_rfl) (fun z5 hS => ?ty2_3) ?_
  case ty2_3 => go_simp; rfl
  case tq2_3 => exact fun _ _ _ h => h
  refine tkH 3 (v := ?tv3_4) K0 rfl (by kernel_rfl) ?tq3_4 (by kernel_rfl) (fun z5 hS => ?ty3_4) ?_
  case ty3_4 => go_simp; rfl
  case tq3_4 => exact fun _ _ _ h => h
  refine tkH 4 (v := ?tv4_5) K0 rfl (by kernel_rfl) ?tq4_5 (by kernel_rfl) (fun z5 hS => ?ty4_5) ?_
  case ty4_5 => go_simp; rfl
  case tq4_5 => exact fun _ _ _ h => h
  refine tkH 5 (v := ?tv5_6) K0 rfl (by kernel_rfl) ?tq5_6 (by kernel_rfl) (fun z5 hS => ?ty5_6) ?_
  case ty5_6 => go_simp; rfl
  case tq5_6 => exact fun _ _ _ h => h
  refine tkH 6 (v := ?tv6_7) K0 rfl (by kernel_rfl) ?tq6_7 (by kernel_rfl) (fun z5 hS => ?ty6_7) ?_
  case ty6_7 => go_simp; rfl
  case tq6_7 => exact fun _ _ _ h => h
  refine tkH 7 (v := ?tv7_8) K0 rfl (by kernel_rfl) ?tq7_8 (by kernel_rfl) (fun z5 hS => ?ty7_8) ?_
  case ty7_8 => go_simp; rfl
  case tq7_8 => exact fun _ _ _ h => h
  refine tkH 8 (v := ?tv8_9) K0 rfl (by kernel_rfl) ?tq8_9 (by kernel_rfl) (fun z5 hS => ?ty8_9) ?_
  case ty8_9 => go_simp; rfl
  case tq8_9 => exact fun _ _ _ h => h
  refine tkH 9 (v := ?tv9_10) K0 rfl (by kernel_rfl) ?tq9_10 (by kernel_rfl) (fun z5 hS => ?ty9_10) ?_
  case ty9_10 => go_simp; rfl
  case tq9_10 => exact fun _ _ _ h => h
  refine tkH 10 (v := ?tv10_11) K0 rfl (by kernel_rfl) ?tq10_11 (by kernel_rfl) (fun z5 hS => ?ty10_11) ?_
  case ty10_11 => go_simp; rfl
  case tq10_11 => exact fun _ _ _ h => h
  refine tkH 11 (v := ?tv11_12) K0 rfl (by kernel_rfl) ?tq11_12 (by kernel_rfl) (fun z5 hS => ?ty11_12) ?_
  case ty11_12 => go_simp; rfl
  case tq11_12 => exact fun _ _ _ h => h
  refine tkH 12 (v := ?tv12_13) K0 rfl (by kernel_rfl) ?tq12_13 (by kernel_rfl) (fun z5 hS => ?ty12_13) ?_
  case ty12_13 => go_simp; rfl
  case tq12_13 => exact fun _ _ _ h => h
  refine tkH 13 (v := ?tv13_14) K0 rfl (by kernel_rfl) ?tq13_14 (by kernel_rfl) (fun z5 hS => ?ty13_14) ?_
  case ty13_14 => go_simp; rfl
  case tq13_14 => exact fun _ _ _ h => h
  refine tkH 14 (v := ?tv14_15) K0 rfl (by kernel_rfl) ?tq14_15 (by kernel_rfl) (fun z5 hS => ?ty14_15) ?_
  case ty14_15 => go_simp; rfl
  case tq14_15 => exact fun _ _ _ h => h
  refine tkH 15 (v := ?tv15_16) K0 rfl (by kernel_rfl) ?tq15_16 (by kernel_rfl) (fun z5 hS => ?ty15_16) ?_
  case ty15_16 => go_simp; rfl
  case tq15_16 => exact fun _ _ _ h => h
  refine tkH 16 (v := ?tv16_17) K0 rfl (by kernel_rfl) ?tq16_17 (by kernel_rfl) (fun z5 hS => ?ty16_17) ?_
  case ty16_17 => go_simp; rfl
  case tq16_17 => exact fun _ _ _ h => h
  refine tkH 17 (v := ?tv17_18) K0 rfl (by kernel_rfl) ?tq17_18 (by kernel_rfl) (fun z5 hS => ?ty17_18) ?_
  case ty17_18 => go_simp; rfl
  case tq17_18 => exact fun _ _ _ h => h
  refine tkH 18 (v := ?tv18_19) K0 rfl (by kernel_rfl) ?tq18_19 (by kernel_rfl) (fun z5 hS => ?ty18_19) ?_
  case ty18_19 => go_simp; rfl
  case tq18_19 => exact fun _ _ _ h => h
  refine tkH 19 (v := ?tv19_20) K0 rfl (by kernel_rfl) ?tq19_20 (by kernel_rfl) (fun z5 hS => ?ty19_20) ?_
  case ty19_20 => go_simp; rfl
  case tq19_20 => exact fun _ _ _ h => h
  refine tkH 20 (v := ?tv20_21) K0 rfl (by kernel_rfl) ?tq20_21 (by kernel_rfl) (fun z5 hS => ?ty20_21) ?_
  case ty20_21 => go_simp; rfl
  case tq20_21 => exact fun _ _ _ h => h
  refine tkH 21 (v := ?tv21_22) K0 rfl (by kernel_rfl) ?tq21_22 (by kernel_rfl) (fun z5 hS => ?ty21_22) ?_
  case ty21_22 => go_simp; rfl
  case tq21_22 => exact fun _ _ _ h => h
  refine tkH 22 (v := ?tv22_23) K0 rfl (by kernel_rfl) ?tq22_23 (by kernel_rfl) (fun z5 hS => ?ty22_23) ?_
  case ty22_23 => go_simp; rfl
  case tq22_23 => exact fun _ _ _ h => h
  refine tkH 23 (v := ?tv23_24) K0 rfl (by kernel_rfl) ?tq23_24 (by kernel_rfl) (fun z5 hS => ?ty23_24) ?_
  case ty23_24 => go_simp; rfl
  case tq23_24 => exact fun _ _ _ h => h
  refine tkH 24 (v := ?tv24_25) K0 rfl (by kernel_rfl) ?tq24_25 (by kernel_rfl) (fun z5 hS => ?ty24_25) ?_
  case ty24_25 => go_simp; rfl
  case tq24_25 => exact fun _ _ _ h => h
  refine tkH 25 (v := ?tv25_26) K0 rfl (by kernel_rfl) ?tq25_26 (by kernel_rfl) (fun z5 hS => ?ty25_26) ?_
  case ty25_26 => go_simp; rfl
  case tq25_26 => exact fun _ _ _ h => h
  refine tkH 26 (v := ?tv26_27) K0 rfl (by kernel_rfl) ?tq26_27 (by kernel_rfl) (fun z5 hS => ?ty26_27) ?_
  case ty26_27 => go_simp; rfl
  case tq26_27 => exact fun _ _ _ h => h
  refine tkH 27 (v := ?tv27_28) K0 rfl (by kernel_rfl) ?tq27_28 (by kernel_rfl) (fun z5 hS => ?ty27_28) ?_
  case ty27_28 => obtain ⟨q0, q1⟩ := (bx.out.below hS).cells; go_simp; rfl
  case tq27_28 => exact fun _ _ _ h => h
  refine wpAnyH_one (i := 28) (by kernel_rfl) rfl (by kernel_rfl) (fun K hK => ?_)
  go_simp
  (with_reducible refine (F_z4.out _).mono ?_)
  rintro e z1 ⟨v, he, hr, hb⟩
  obtain ⟨Ay, cy, hv, hat⟩ := hr.nb
  subst hv
  subst he
  have K1 := K0.trans (hb.mono K0.size)
  refine hK.out _ _ K1 ?_
  have hy := xb.out.lift K1
  have hy1 : SlU z1 z1.heap.size Axb (digs W z4.natAbs).length cxb (digs W z4.natAbs) := hy.lim.sl (fun b hb => hb.2)
  have hy2 : SlU z1 z1.heap.size Ay (digs W z4.natAbs).length cy (digs W z4.natAbs) := hat.lim.sl (fun b hb => hb.2)
  have hcm := Cmp_gr (decide (z4 < 0)) (decide (z4 < 0)) hy1 hy2 (Nat.le_refl _) (Nat.le_refl _)
  rw [ival_digs, show cmpZ z4 z4 = 0 by simp [cmpZ]] at hcm
  refine wpAnyH_one (i := 29) (by kernel_rfl) rfl (by kernel_rfl) (fun K hK => ?_)
  go_simp
  (with_reducible refine hcm.mono ?_)
  rintro e z2 ⟨he, hg⟩
  subst he
  have K2 := K1.trans (hg.bel.mono K1.size)
  refine hK.out _ _ K2 ?_
  refine tkH 30 (v := ?tv30_29) K2 rfl (by kernel_rfl) ?tq30_29 (by kernel_rfl) (fun z5 hS => ?ty30_29) ?_
  case ty30_29 => go_simp; rfl
  case tq30_29 => exact fun _ _ _ h => h
  refine tkH 31 (v := ?tv31_30) K2 rfl (by kernel_rfl) ?tq31_30 (by kernel_rfl) (fun z5 hS => ?ty31_30) ?_
  case ty31_30 => go_simp; rfl
  case tq31_30 => exact fun _ _ _ h => h
  refine wpAnyH_one (i := 32) (by kernel_rfl) rfl (by kernel_rfl) (fun K hK => ?_)
  go_simp
  refine hK.out _ _ K2 ?_
  refine wpAnyH_end (by kernel_rfl) ?_ _
  have HBz := HB29.out.trans (K2.mono hS29)
  go_wp2_with fail
  first
    | (go_ret; exact ⟨rfl, HBz⟩)
    | exact bodyPost_ret (v := .bool true) (by simp [results, Tryz.results5, go_sem]) rfl ⟨rfl, HBz⟩
end Go.Proofs.YtpikjceodmepiaaGreatDoor

