import Derived.Test.YtgfeainpeplphaaDoorHp
namespace Go.Proofs.YtgfeainpeplphaaDoor
open Go.RowKit Hb Ht
set_option linter.unusedVariables false
set_option linter.unusedSimpArgs false
attribute [local go_sem] Oper.semAt_some
/-! ### term.own -/
def TmOwnOk (t : Tm) : Prop := ∀ (w : World) (sl : Value), TAt w w.heap.size t sl → Calls Tryd.prog 72 #[valT t sl] w fun e w' => ∃ sl', e = .returned (valT t sl') ∧ TOwn w' t sl' w.heap.size w'.heap.size ∧ Below w.heap.size w w'
set_option maxRecDepth 100000 in
set_option maxHeartbeats 8000000 in
theorem termown_any (t : Tm) : TmOwnOk t := by
  refine Tm.ind (p := TmOwnOk) (fun k nl ml b v ts ih => ?_) t
  intro w sl h
  obtain ⟨A, c, rfl, hl1, hl2, hl3⟩ := h.slice
  have hok := h.ok
  obtain ⟨nb, hnb⟩ : ∃ nb : ByteArray, (⟨nl.toArray⟩ : ByteArray) = nb := ⟨_, rfl⟩
  obtain ⟨mb, hmb⟩ : ∃ mb : ByteArray, (⟨ml.toArray⟩ : ByteArray) = mb := ⟨_, rfl⟩
  obtain ⟨L, hL⟩ : ∃ L, ts.length = L := ⟨_, rfl⟩
  change ts.length ≤ c at hl1
  change ts.length ≤ maxArgs at hl3
  change TAt w w.heap.size (.mk k nl ml b v ts) (.slice A ts.length c) at h
  change Calls Tryd.prog 72 #[valT _ (.slice A ts.length c)] w _
  rw [valT_mk hnb hmb]
  rw [hL] at h hl1 hl3 ⊢
  have HIH := Lib.hid ih
  have HL := Lib.hid hL
  have HM := Lib.hid (And.intro hnb hmb)
  have HOk := Lib.hid hok
  have HMx := Lib.hid hl3
  have hLI : (L : Int) ≤ 1759218604400 := by unfold maxArgs at hl3; omega
  obtain ⟨W1, hW1⟩ : ∃ W1, w.alloc (.cells #[.int .i64 k, .string nb, .string mb, .int .u64 b, .int .i64 v, .slice A L c] 25) = W1 := ⟨_, rfl⟩
  obtain ⟨W2, hW2⟩ : ∃ W2, W1.alloc (.cells #[.int .i64 0, .string ⟨#[]⟩, .string ⟨#[]⟩, .int .u64 0, .int .i64 0, .slice none 0 0] 25) = W2 := ⟨_, rfl⟩
  have hb1 : Below w.heap.size w W1 := by rw [← hW1]; exact (Below.refl _ _).alloc (Nat.le_refl _) _
  have s1 : W1.heap.size = w.heap.size + 1 := by rw [← hW1]; simp
  have hb2 : Below W1.heap.size W1 W2 := by rw [← hW2]; exact (Below.refl _ _).alloc (Nat.le_refl _) _
  have s2 : W2.heap.size = W1.heap.size + 1 := by rw [← hW2]; simp
  have hX1 : TBox W1 w.heap.size (.mk k nl ml b v ts) (.slice A L c) := by rw [← hW1]; exact TBox.new w hnb hmb
  have hX2 : TBox W2 W1.heap.size zeroT (.slice none 0 0) := by rw [← hW2]; exact heap_alloc_new W1 _
  have hX1' := hX1.below hb2
  rw [s1] at hX2
  obtain ⟨x0, x1, x2, x3, x4, x5⟩ := hX1'.cells hnb hmb
  have HX := Lib.hid (And.intro hX1' hX2)
  have HB := Lib.hid (hb1.trans (hb2.mono (by omega)))
  have HT := Lib.hid h
  have HS := Lib.hid (show W2.heap.size = w.heap.size + 1 + 1 by omega)
  have HW := Lib.hid hW2
  subst hW1
  clear ih h hL hnb hmb hok hl3 hX1 hX2 hX1' hb1 hb2 s1 s2 hW2
  by_cases hk : L ≠ 0
  · have s0 : ((L : Int) == 0) = false := beq_eq_false_iff_ne.2 (by omega)
    clear hk
    rw [← HW.out] at x0 x1 x2 x3 x4 x5
    obtain ⟨MC, hMC⟩ : ∃ MC, madeCells (Value.agg #[.int .i64 0, .string ⟨#[]⟩, .string ⟨#[]⟩, .int .u64 0, .int .i64 0, .slice none 0 0]).cells (L * 6) = MC := ⟨_, rfl⟩
    have HMC := Lib.hid (show MC.size = L * 6 by rw [← hMC, size_madeCells])
    have hmk : ∀ W : World, (Instr.makeSlice 23 (.int .i64 (L : Int)) (.int .i64 (L : Int))).run Tryd.prog W = .ok (.slice (some ⟨W.heap.size, 0, none⟩) L L) (W.alloc (.cells MC 25)) := fun W => by
      obtain ⟨i0, hi, hz0, hz1, hz2⟩ := info_parts infoT
      have h9 := run_make (P := Tryd.prog) W 23 25 i0 _ Tryd.underlying23 hi hz0 .i64 .i64 (L : Int) (L : Int) (by omega) (Int.le_refl _) (by rw [hz2]; omega) (by omega)
      rw [hz1, Int.toNat_natCast, hMC] at h9
      exact h9
    clear hMC
    go_enter Tryd.func72, Tryd.ntmps72
    go_upto_region 6 with fail
    obtain ⟨W3, hW3⟩ : ∃ W3, ((w.alloc (.cells #[.int .i64 k, .string nb, .string mb, .int .u64 b, .int .i64 v, .slice A L c] 25)).alloc (.cells #[.int .i64 0, .string ⟨#[]⟩, .string ⟨#[]⟩, .int .u64 0, .int .i64 0, .slice none 0 0] 25)).alloc (.cells MC 25) = W3 := ⟨_, rfl⟩
    have hI0 : DOwnI w w.heap.size L (.mk k nl ml b v ts) (.slice A L c) (ts.take 0) W3 := by
      have hx := HX.out
      have hb := HB.out
      have hs := HS.out
      have hW3' := hW3
      rw [HW.out] at hW3'
      have hb3 : Below W2.heap.size W2 W3 := by rw [← hW3']; exact (Below.refl _ _).alloc (Nat.le_refl _) (.cells MC 25)
      have hsz : W3.heap.size = w.heap.size + 1 + 1 + 1 := by rw [← hW3', World.size_alloc, hs]
      have hn3 := heap_alloc_new W2 (.cells MC 25)
      rw [hs, hW3'] at hn3
      exact ⟨hb.trans (hb3.mono (by omega)), hx.1.below hb3, hx.2.below hb3, ⟨MC, hn3, HMC.out⟩, by show _ ≤ _; omega⟩
    have HI0 := Lib.hid hI0
    rw [hW3]
    clear hI0 hW3 x0 x1 x2 x3 x4 x5 hmk HB HX HS HW
    obtain ⟨G, hG⟩ : ∃ G, w.heap.size = G := ⟨_, rfl⟩
    have HG := Lib.hid hG
    rw [hG] at HI0 ⊢
    clear hG
    go_loopw [19] (fun v16 wr => ∃ i : Nat, v16 = .int .i64 (i : Nat) ∧ i ≤ L ∧ Hid (DOwnI w G L (.mk k nl ml b v ts) (.slice A L c) (ts.take i) wr)) (fun v16 _ => ((L : Int) - intOf v16).toNat)
    case atStart => exact ⟨0, rfl, Nat.zero_le _, HI0⟩
    case round =>
      obtain ⟨i, rfl, hi, HI⟩ := hrel
      by_cases hlt : i < L
      · have hltI : (i : Int) < (L : Int) := by omega
        have hi0 : (0 : Int) ≤ (i : Int) := by omega
        have hil : i < ts.length := by rw [HL.out]; exact hlt
        obtain ⟨a, ha⟩ : ∃ a, ts[i]? = some a := ⟨_, List.getElem?_eq_getElem hil⟩
        obtain ⟨g, o, rfl, hgB, helt⟩ := (HT.out.to HI.out.bel HI.out.bel.size).arg ha
        obtain ⟨A', c', k', n', m', b', v', ts', nb', mb', rfl, hnb', hmb', hta, e0, e1, e2, e3, e4, e5⟩ := EltAt.cells helt
        obtain ⟨q, hq⟩ : ∃ q, ts'.length = q := ⟨_, rfl⟩
        obtain ⟨W4, hW4⟩ : ∃ W4, wr.alloc (.cells #[.int .i64 k', .string nb', .string mb', .int .u64 b', .int .i64 v', .slice A' q c'] 25) = W4 := ⟨_, rfl⟩
        have hb4 : Below wr.heap.size wr W4 := by rw [← hW4]; exact (Below.refl _ _).alloc (Nat.le_refl _) _
        have hX4 : TBox W4 wr.heap.size (.mk k' n' m' b' v' ts') (.slice A' q c') := by rw [← hW4]; exact TBox.new wr hnb' hmb'
        have HCl := Lib.hid (own_letters hnb' hmb' hq (HIH.out _ (List.mem_of_getElem? ha) W4 _ (hta.to hb4 hb4.size)))
        rw [valT_mk hnb' hmb', hq] at HCl
        obtain ⟨y0, y1, y2, y3, y4, y5⟩ := hX4.cells hnb' hmb'
        have HN := Lib.hid (And.intro hnb' hmb')
        have HLT := Lib.hid hlt
        have HTk := Lib.hid (show ts.take (i + 1) = ts.take i ++ [.mk k' n' m' b' v' ts'] ∧ (ts.take i).length = i by exact ⟨by rw [List.take_succ_eq_append_getElem hil, (List.getElem?_eq_some_iff.1 ha).2], by rw [List.length_take]; omega⟩)
        have HB4 := Lib.hid hb4
        rw [hq] at e5
        subst hW4
        clear helt hta hnb' hmb' ha hil hlt hi hq hb4 hX4
        obtain ⟨cs, hcs, hsz⟩ := HI.out.blk
        have HCs := Lib.hid (And.intro hcs hsz)
        clear hcs hsz
        go_wp2_with (go_at_call 72; (with_reducible refine HCl.out.mono ?_); rintro e w3 ⟨A4, c4, rfl, ho3, hb3⟩; have HO3 := Lib.hid (And.intro ho3 (HB4.out.trans (hb3.mono HB4.out.size))); have hcs3 := (HO3.out.2.block _ (Array.getElem?_eq_some_iff.1 HCs.out.1).1).trans HCs.out.1; obtain ⟨u0, u1, u2, u3, u4, u5, p0, p1, p2, p3, p4, p5⟩ := slots6 hcs3 (j := i * 6) (by have := HCs.out.2; have := HLT.out; omega); obtain ⟨z0, z1, z2, z3, z4, z5⟩ := thaw6 hcs3 (i * 6); have HC3 := Lib.hid hcs3; clear ho3 hb3 hcs3)
        go_roundw
        case rel =>
          refine ⟨i + 1, rfl, HLT.out, Lib.hid ?_⟩
          rw [HTk.out.1]
          obtain ⟨ho3, hb3⟩ := HO3.out
          have hsz := HCs.out.2
          have hlt := HLT.out
          show DOwnI w G L _ _ _ (set6 w3 (G + 1 + 1) (i * 6) (.int .i64 k') (.string nb') (.string mb') (.int .u64 b') (.int .i64 v') (.slice A4 q c4))
          have hgr := set6_grown w3 (G + 1 + 1) (i * 6) (.int .i64 k') (.string nb') (.string mb') (.int .u64 b') (.int .i64 v') (.slice A4 q c4)
          have hss := set6_size w3 (G + 1 + 1) (i * 6) (.int .i64 k') (.string nb') (.string mb') (.int .u64 b') (.int .i64 v') (.slice A4 q c4)
          have hot := fun q' => set6_other w3 (G + 1 + 1) (i * 6) (.int .i64 k') (.string nb') (.string mb') (.int .u64 b') (.int .i64 v') (.slice A4 q c4) (q := q')
          have hce := set6_cell HC3.out (j := i * 6) (by omega) (k := k') (b := b') (v := v') ts' (.slice A4 q c4) HN.out.1 HN.out.2
          obtain ⟨cs', hcs', hsz'⟩ := set6_block (j := i * 6) (a0 := .int .i64 k') (a1 := .string nb') (a2 := .string mb') (a3 := .int .u64 b') (a4 := .int .i64 v') (a5 := .slice A4 q c4) HC3.out
          generalize set6 w3 (G + 1 + 1) (i * 6) (.int .i64 k') (.string nb') (.string mb') (.int .u64 b') (.int .i64 v') (.slice A4 q c4) = w6 at *
          have hGw := HG.out
          have hlG : G < wr.heap.size := HI.out.t1.lt
          have hlG2 : G + 1 < wr.heap.size := HI.out.t2.lt
          have hlG3 : G + 1 + 1 < wr.heap.size := (Array.getElem?_eq_some_iff.1 HCs.out.1).1
          have hws := hb3.size
          refine ⟨((HI.out.bel.trans (hb3.mono HI.out.bel.size))).grown hgr (by omega) (fun j e => by injection e with e; omega), ((hgr.block G (by omega) (fun e => by injection e with e; omega)).trans (hb3.block G hlG)).trans HI.out.t1, ((hgr.block (G + 1) (by omega) (fun e => by injection e with e; omega)).trans (hb3.block (G + 1) hlG2)).trans HI.out.t2, ⟨cs', hcs', hsz'.trans hsz⟩, ?_⟩
          have hpre : TsOwn w6 (G + 1 + 1) (ts.take i) 0 (G + 1 + 1 + 1) wr.heap.size := HI.out.own.keep (fun b h1 h2 => (hgr.block b (by omega) (fun e => by injection e with e; omega)).trans (hb3.block b h2)) (fun j _ hj2 => by
            rw [HTk.out.2, Nat.zero_add] at hj2
            rw [hot j (.inl (by omega))]
            exact hb3.cell (p := ⟨G + 1 + 1, j, none⟩) hlG3)
          rw [hss]
          refine hpre.snoc (mid := wr.heap.size) hws (sl := .slice A4 q c4) (fun j hj => ?_) ?_
          · rw [HTk.out.2, Nat.zero_add]
            exact hce j hj
          · have h9 := ho3.lower (lo' := wr.heap.size) (by simp)
            exact TOwn.keep _ h9 (fun b h1 h2 => hgr.block b h2 (fun e => by injection e with e; omega))
        case measure =>
          have := HLT.out
          show ((L : Int) - ((i : Int) + 1)).toNat < ((L : Int) - (i : Int)).toNat
          omega
      · have ei : i = L := by omega
        subst ei
        obtain ⟨x0, x1, x2, x3, x4, x5⟩ := HI.out.t1.cells HM.out.1 HM.out.2
        have f5 := HI.out.t1.frozen 5
        have hlG : G < wr.heap.size := HI.out.t1.lt
        obtain ⟨y0, y1, y2, y3, y4, y5⟩ := ((HI.out.t2.far (p := ⟨G, 5, none⟩) (by show G + 1 ≠ G; omega) (.slice (some ⟨G + 1 + 1, 0, none⟩) i i))).cells rfl rfl
        obtain ⟨v0, v1, v2, v3, v4, v5⟩ := ((HI.out.t2.far (p := ⟨G, 5, none⟩) (by show G + 1 ≠ G; omega) (.slice (some ⟨G + 1 + 1, 0, none⟩) i i))).frozens
        obtain ⟨r0, r1, r2, r3, r4, r5⟩ := (HI.out.t1.args (.slice (some ⟨G + 1 + 1, 0, none⟩) i i)).cells HM.out.1 HM.out.2
        have HE := Lib.hid HI.out
        clear hlt hi
        go_wp2
        have hb1 := HE.out.t2.far (p := ⟨G, 5, none⟩) (by show G + 1 ≠ G; omega) (.slice (some ⟨G + 1 + 1, 0, none⟩) i i)
        obtain ⟨hbx, hgr⟩ := hb1.set6 (k := k) (b := b) (v := v) ts (.slice (some ⟨G + 1 + 1, 0, none⟩) i i) HM.out.1 HM.out.2
        have hg0 := gb_setCell (gb_refl wr (some G)) 5 (.slice (some ⟨G + 1 + 1, 0, none⟩) i i)
        generalize wr.setCell ⟨G, 5, none⟩ (.slice (some ⟨G + 1 + 1, 0, none⟩) i i) = w5 at *
        generalize (((((w5.setCell ⟨G + 1, 0, none⟩ (.int .i64 k)).setCell ⟨G + 1, 1, none⟩ (.string nb)).setCell ⟨G + 1, 2, none⟩ (.string mb)).setCell ⟨G + 1, 3, none⟩ (.int .u64 b)).setCell ⟨G + 1, 4, none⟩ (.int .i64 v)).setCell ⟨G + 1, 5, none⟩ (.slice (some ⟨G + 1 + 1, 0, none⟩) i i) = w6 at *
        obtain ⟨q0, q1, q2, q3, q4, q5⟩ := hbx.cells HM.out.1 HM.out.2
        have hGw := HG.out
        obtain ⟨cs, hcs, hsz⟩ := HE.out.blk
        have hlG3 : G + 1 + 1 < wr.heap.size := (Array.getElem?_eq_some_iff.1 hcs).1
        have hs1 := hg0.size
        have hs2 := hgr.size
        have hkeep : ∀ b, G + 1 + 1 ≤ b → b < wr.heap.size → w6.heap[b]? = wr.heap[b]? := fun b h1 h2 => (hgr.block b (by omega) (fun e => by injection e with e; omega)).trans (hg0.block b h2 (fun e => by injection e with e; omega))
        refine bodyPost_ret (v := .agg #[.int .i64 k, .string nb, .string mb, .int .u64 b, .int .i64 v, .slice (some ⟨G + 1 + 1, 0, none⟩) i i]) (by simp [results, Tryd.results72, go_sem, q0, q1, q2, q3, q4, q5]) rfl ⟨.slice (some ⟨G + 1 + 1, 0, none⟩) i i, by rw [valT_mk HM.out.1 HM.out.2], ?_, ?_⟩
        · rw [TOwn.iff]
          refine ⟨HOk.out, by show ts.length ≤ _; rw [HL.out]; exact HMx.out, by omega, _, i, by show _ = Value.slice _ ts.length _; rw [HL.out], by show ts.length ≤ _; rw [HL.out]; exact Nat.le_refl _, by have := HMx.out; unfold maxArgs at this; unfold maxLen; omega, fun hne => ⟨G + 1 + 1, rfl, by omega, by omega, ⟨cs, (hkeep _ (Nat.le_refl _) hlG3).trans hcs⟩, ?_⟩⟩
          have h9 := HE.out.own
          rw [List.take_of_length_le (by rw [HL.out]; exact Nat.le_refl _)] at h9
          exact TsOwn.widen (by omega) _ _ _ (h9.keep (fun b h1 h2 => hkeep b (by omega) h2) (fun j _ _ => World.cell?_of_block (a := ⟨G + 1 + 1, j, none⟩) (hkeep _ (Nat.le_refl _) hlG3)))
        · exact (HE.out.bel.grown hg0 HE.out.bel.size (fun j e => by injection e with e; omega)).grown hgr (by have := HE.out.bel.size; omega) (fun j e => by injection e with e; omega)
  · have hL0 : L = 0 := by omega
    subst hL0
    have hts : ts = [] := List.length_eq_zero_iff.1 HL.out
    subst hts
    clear hk
    rw [← HW.out] at x0 x1 x2 x3 x4 x5
    have hX := HX.out
    rw [← HW.out] at hX
    obtain ⟨y0, y1, y2, y3, y4, y5⟩ := hX.2.cells rfl rfl
    obtain ⟨v0, v1, v2, v3, v4, v5⟩ := hX.2.frozens
    obtain ⟨z0, z1, z2, z3, z4, z5⟩ := hX.1.frozens
    clear hX
    go_enter Tryd.func72, Tryd.ntmps72
    go_wp2
    refine bodyPost_ret (v := .agg #[.int .i64 k, .string nb, .string mb, .int .u64 b, .int .i64 v, .slice none 0 0]) (by simp [results, Tryd.results72, go_sem]) rfl ⟨.slice none 0 0, by rw [valT_mk HM.out.1 HM.out.2], ?_, ?_⟩
    · rw [TOwn.iff]
      exact ⟨HOk.out, Nat.zero_le _, by simp; omega, none, 0, rfl, Nat.zero_le _, by simp [maxLen], fun hne => absurd rfl hne⟩
    · exact ((Below.refl _ _).alloc (Nat.le_refl _) _).alloc (by simp) _
end Go.Proofs.YtgfeainpeplphaaDoor
