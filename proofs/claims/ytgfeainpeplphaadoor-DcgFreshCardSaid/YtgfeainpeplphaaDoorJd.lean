import Derived.Test.YtgfeainpeplphaaDoorJc
namespace Ht
theorem end_drop {l : List Tm} {e a : Tm} {j : Nat} (ha : l[j]? = some a) : endT (l.drop j) e = cmpT sDot [a, endT (l.drop (j + 1)) e] := by
  obtain ⟨hil, e1⟩ := List.getElem?_eq_some_iff.1 ha
  rw [List.drop_eq_getElem_cons hil, e1]
  rfl
end Ht
namespace Go.Proofs.YtgfeainpeplphaaDoor
open Go.RowKit Hb Ht
set_option linter.unusedVariables false
set_option linter.unusedSimpArgs false
attribute [local go_sem] Oper.semAt_some
/-! ### dcg.ending -/
structure EndI (w : World) (P : Nat → Prop) (G : Nat) (cur : Tm) (sl : Value) (wr : World) : Prop where
  bel : Below w.heap.size w wr
  t1 : TBox wr G cur sl
  t2 : TBox wr (G + 1) zeroT (.slice none 0 0)
  le : G + 1 + 1 ≤ wr.heap.size
  kid : TAtP wr (fun b => Grow P w wr b ∧ b ≠ G ∧ b ≠ G + 1) cur sl
theorem EltP.cells {w : World} {P : Nat → Prop} {g o : Nat} {a : Tm} (h : EltP w P g o a) : ∃ A c k n m b v ts nb mb, a = .mk k n m b v ts ∧ (⟨n.toArray⟩ : ByteArray) = nb ∧ (⟨m.toArray⟩ : ByteArray) = mb ∧ TAtP w P a (.slice A ts.length c) ∧
    w.cell? ⟨g, o, none⟩ = some (.int .i64 k) ∧ w.cell? ⟨g, o + 1, none⟩ = some (.string nb) ∧ w.cell? ⟨g, o + 2, none⟩ = some (.string mb) ∧ w.cell? ⟨g, o + 3, none⟩ = some (.int .u64 b) ∧ w.cell? ⟨g, o + 4, none⟩ = some (.int .i64 v) ∧ w.cell? ⟨g, o + 5, none⟩ = some (.slice A ts.length c) := by
  obtain ⟨sl, hc, ht⟩ := h
  obtain ⟨A, c, rfl, _⟩ := TAtP.iff.1 ht
  obtain ⟨k, n, m, b, v, ts⟩ := a
  exact ⟨A, c, k, n, m, b, v, ts, _, _, rfl, rfl, rfl, ht, hc 0 (by omega), hc 1 (by omega), hc 2 (by omega), hc 3 (by omega), hc 4 (by omega), hc 5 (by omega)⟩
set_option maxRecDepth 100000 in
set_option maxHeartbeats 8000000 in
theorem ending_any {w : World} {P : Nat → Prop} {A : Option Addr} {n c : Nat} {ps : List (Tm × Value)} {t : Tm} {sl : Value} (h : RowP w P A n ps) (he : TAtP w P t sl) (hP : ∀ b, P b → b < w.heap.size) (hn : n ≤ maxArgs) (hc : n ≤ c) :
    Calls Tryd.prog 39 #[.slice A n c, valT t sl] w fun e w' => ∃ sl', e = .returned (valT (endT (ps.map (·.1)) t) sl') ∧ TAtP w' (Grow P w w') (endT (ps.map (·.1)) t) sl' ∧ Below w.heap.size w w' := by
  obtain ⟨T, hT⟩ : ∃ T, t = T := ⟨_, rfl⟩
  obtain ⟨ts, hts⟩ : ∃ ts, ps.map (·.1) = ts := ⟨_, rfl⟩
  obtain ⟨k, nl, ml, b, v, us, nb, mb, A1, c1, hT2, rfl, hnb, hmb, hl1, hl2, hl3, hv, hs1, hs2⟩ := he.letters
  rw [hT] at hT2 hv he
  rw [hT, hts, hv]
  obtain ⟨L, hL⟩ : ∃ L, us.length = L := ⟨_, rfl⟩
  rw [hL] at he hv ⊢
  have HTn := Lib.hid (show ts.length = n from by rw [← hts, List.length_map, h.1])
  have HH := Lib.hid (And.intro h (And.intro hP hts))
  have hnI : (n : Int) ≤ 1759218604400 := by unfold maxArgs at hn; omega
  obtain ⟨W1, hW1⟩ : ∃ W1, w.alloc (.cells #[.int .i64 k, .string nb, .string mb, .int .u64 b, .int .i64 v, .slice A1 L c1] 25) = W1 := ⟨_, rfl⟩
  obtain ⟨W2, hW2⟩ : ∃ W2, W1.alloc (.cells #[.int .i64 0, .string ⟨#[]⟩, .string ⟨#[]⟩, .int .u64 0, .int .i64 0, .slice none 0 0] 25) = W2 := ⟨_, rfl⟩
  have hb1 : Below w.heap.size w W1 := by rw [← hW1]; exact (Below.refl _ _).alloc (Nat.le_refl _) _
  have s1 : W1.heap.size = w.heap.size + 1 := by rw [← hW1]; simp
  have hb2 : Below W1.heap.size W1 W2 := by rw [← hW2]; exact (Below.refl _ _).alloc (Nat.le_refl _) _
  have s2 : W2.heap.size = W1.heap.size + 1 := by rw [← hW2]; simp
  have hX1 : TBox W1 w.heap.size (.mk k nl ml b v us) (.slice A1 L c1) := by rw [← hW1]; exact TBox.new w hnb hmb
  have hX2 : TBox W2 W1.heap.size zeroT (.slice none 0 0) := by rw [← hW2]; exact heap_alloc_new W1 _
  have hX1' := hX1.below hb2
  rw [s1] at hX2
  have hb12 := hb1.trans (hb2.mono (by omega))
  rw [hT2] at he
  have HI0 := Lib.hid (show EndI w P w.heap.size (.mk k nl ml b v us) (.slice A1 L c1) W2 from ⟨hb12, hX1', hX2, by omega, TAtP.keep _ he (fun b hb => ⟨⟨.inl hb, by have := hP b hb; omega, by have := hP b hb; omega⟩, hb12.block b (hP b hb)⟩)⟩)
  have HT := Lib.hid (show endT (ts.drop n) T = .mk k nl ml b v us from by rw [List.drop_of_length_le (by rw [HTn.out]; exact Nat.le_refl _), hT2]; rfl)
  subst hW1
  subst hW2
  clear hv hX1 hX2 hX1' hb1 hb2 hb12 s1 s2 hT hT2 hs1 hs2 h he hP hts hnb hmb
  go_enter Tryd.func39, Tryd.ntmps39
  go_upto_region 2 with fail
  obtain ⟨G, hG⟩ : ∃ G, w.heap.size = G := ⟨_, rfl⟩
  have HG := Lib.hid hG
  rw [hG] at HI0 ⊢
  clear hG
  go_loopw [5] (fun vi wr => ∃ j cur sl, vi = .int .i64 ((j : Nat) - 1 : Int) ∧ j ≤ n ∧ Hid (EndI w P G cur sl wr ∧ endT (ts.drop j) T = cur)) (fun vi _ => (intOf vi + 1).toNat)
  case atStart => exact ⟨n, _, _, rfl, Nat.le_refl _, Lib.hid ⟨HI0.out, HT.out⟩⟩
  case round =>
    obtain ⟨j, cur, sl, rfl, hj, HI⟩ := hrel
    obtain ⟨k', n', m', b', v', us', nb', mb', A', c', rfl, rfl, hnb', hmb', hm1, hm2, hm3, hv', hs1', hs2'⟩ := HI.out.1.kid.letters
    obtain ⟨q, hq⟩ : ∃ q, us'.length = q := ⟨_, rfl⟩
    rw [hq] at HI
    obtain ⟨y0, y1, y2, y3, y4, y5⟩ := HI.out.1.t1.cells hnb' hmb'
    have HN := Lib.hid (And.intro hnb' hmb')
    clear hv' hs1' hs2' hq hnb' hmb' hm1 hm2 hm3
    cases j with
    | succ i =>
      have ei : ((i + 1 : Nat) : Int) - 1 = (i : Int) := by omega
      rw [ei]
      have hi0 : (0 : Int) ≤ (i : Int) := by omega
      have hiI : (i : Int) < (n : Int) := by omega
      obtain ⟨p, hp⟩ : ∃ p, ps[i]? = some p := ⟨_, List.getElem?_eq_getElem (by rw [HH.out.1.1]; omega)⟩
      have ha : ts[i]? = some p.1 := by rw [← HH.out.2.2, List.getElem?_map, hp]; rfl
      obtain ⟨g, o, rfl, hgB, helt⟩ := HH.out.1.elt hp
      obtain ⟨pt, psl⟩ := p
      obtain ⟨A3, c3, k3, n3, m3, b3, v3, ts3, nb3, mb3, rfl, hnb3, hmb3, hta, e0, e1, e2, e3, e4, e5⟩ := EltP.cells helt
      obtain ⟨q3, hq3⟩ : ∃ q, ts3.length = q := ⟨_, rfl⟩
      rw [hq3] at e5 hta
      have hbl := HI.out.1.bel.block g hgB
      have i0 := (World.cell?_of_block (a := ⟨g, o + i * 6, none⟩) hbl).trans e0
      have i1 := (World.cell?_of_block (a := ⟨g, o + i * 6 + 1, none⟩) hbl).trans e1
      have i2 := (World.cell?_of_block (a := ⟨g, o + i * 6 + 2, none⟩) hbl).trans e2
      have i3 := (World.cell?_of_block (a := ⟨g, o + i * 6 + 3, none⟩) hbl).trans e3
      have i4 := (World.cell?_of_block (a := ⟨g, o + i * 6 + 4, none⟩) hbl).trans e4
      have i5 := (World.cell?_of_block (a := ⟨g, o + i * 6 + 5, none⟩) hbl).trans e5
      have HE := Lib.hid (show endT (ts.drop i) T = cmpT sDot [.mk k3 n3 m3 b3 v3 ts3, .mk k' n' m' b' v' us'] from by rw [end_drop ha, HI.out.2])
      have hdr := below_drew' wr
      have hta1 : TAtP wr.drew (fun b => Grow P w wr b ∧ b ≠ G ∧ b ≠ G + 1) (.mk k3 n3 m3 b3 v3 ts3) (.slice A3 q3 c3) := TAtP.keep _ hta (fun b hb => ⟨⟨.inl hb, by have := HH.out.2.1 b hb; have := HG.out; omega, by have := HH.out.2.1 b hb; have := HG.out; omega⟩, HI.out.1.bel.block b (HH.out.2.1 b hb)⟩)
      have hcu1 : TAtP wr.drew (fun b => Grow P w wr b ∧ b ≠ G ∧ b ≠ G + 1) (.mk k' n' m' b' v' us') (.slice A' q c') := TAtP.keep _ HI.out.1.kid (fun b hb => ⟨hb, rfl⟩)
      have hbu := built (w := wr.drew) (s := sDot) (n := 2) (cs := #[.int .i64 k3, .string nb3, .string mb3, .int .u64 b3, .int .i64 v3, .slice A3 q3 c3, .int .i64 k', .string nb', .string mb', .int .u64 b', .int .i64 v', .slice A' q c'])
        (ps := [((.mk k3 n3 m3 b3 v3 ts3 : Tm), Value.slice A3 q3 c3), ((.mk k' n' m' b' v' us' : Tm), Value.slice A' q c')]) (by rw [← hnb3, ← hmb3, ← HN.out.1, ← HN.out.2]; rfl) rfl (mem2 hta1 hcu1) (fun b hb => Grow.lt HH.out.2.1 HI.out.1.bel.size b hb.1) (by unfold maxArgs; omega) (by decide)
      have hb4 : Below wr.heap.size wr (wr.drew.alloc (.cells #[.int .i64 k3, .string nb3, .string mb3, .int .u64 b3, .int .i64 v3, .slice A3 q3 c3, .int .i64 k', .string nb', .string mb', .int .u64 b', .int .i64 v', .slice A' q c'] 25)) := hdr.alloc hdr.size _
      have HB4 := Lib.hid (show TAtP ((wr.alloc (.cells #[.int .i64 k3, .string nb3, .string mb3, .int .u64 b3, .int .i64 v3, .slice A3 q3 c3, .int .i64 k', .string nb', .string mb', .int .u64 b', .int .i64 v', .slice A' q c'] 25)).drew) (fun b => (Grow P w wr b ∧ b ≠ G ∧ b ≠ G + 1) ∨ b = wr.heap.size) (cmpT sDot [.mk k3 n3 m3 b3 v3 ts3, .mk k' n' m' b' v' us']) (.slice (some ⟨wr.heap.size, 0, none⟩) 2 2) ∧ Below wr.heap.size wr ((wr.alloc (.cells #[.int .i64 k3, .string nb3, .string mb3, .int .u64 b3, .int .i64 v3, .slice A3 q3 c3, .int .i64 k', .string nb', .string mb', .int .u64 b', .int .i64 v', .slice A' q c'] 25)).drew) ∧ ((wr.alloc (.cells #[.int .i64 k3, .string nb3, .string mb3, .int .u64 b3, .int .i64 v3, .slice A3 q3 c3, .int .i64 k', .string nb', .string mb', .int .u64 b', .int .i64 v', .slice A' q c'] 25)).drew).heap.size = wr.heap.size + 1 from ⟨hbu, hb4, by simp⟩)
      have HLT := Lib.hid (show i < n by omega)
      clear helt hta hnb3 hmb3 e0 e1 e2 e3 e4 e5 hbl ha hp hdr hta1 hcu1 hbu hb4 hj ei hq3
      go_upto_region 4 with fail
      go_still_tail 5, (by kernel_rfl)
      change wpList _ _ _ _ _ wr.drew
      go_wp2_with (go_at_call 32; (with_reducible refine (of_any _ _ _ _ _).mono ?_); rintro e w5 ⟨rfl, hb5⟩; have HX5 := Lib.hid (HI.out.1.t1.below (HB4.out.2.1.trans (hb5.mono HB4.out.2.1.size))); obtain ⟨r0, r1, r2, r3, r4, r5⟩ := HX5.out.cells HN.out.1 HN.out.2; obtain ⟨z0, z1, z2, z3, z4, z5⟩ := HX5.out.frozens; have HB5 := Lib.hid hb5; clear hb5)
      go_roundw
      case rel =>
        obtain ⟨hbx, hgr⟩ := HX5.out.set6 (k := 5) (b := 0) (v := 0) (n := sDot) (m := []) (nb := ⟨#[46]⟩) (mb := ⟨#[]⟩) [.mk k3 n3 m3 b3 v3 ts3, .mk k' n' m' b' v' us'] (.slice (some ⟨wr.heap.size, 0, none⟩) 2 2) rfl rfl
        have hbw := HB4.out.2.1.trans (HB5.out.mono HB4.out.2.1.size)
        have hsz := HB5.out.size
        have hb5s := hbw.size
        have hbel0 := HI.out.1.bel.size
        have hgz := hgr.size
        have hs4 := HB4.out.2.2
        have hG := HG.out
        have hle := HI.out.1.le
        refine ⟨i, _, _, rfl, by have := HLT.out; omega, Lib.hid ⟨⟨?_, hbx, ?_, ?_, ?_⟩, HE.out⟩⟩
        · exact (HI.out.1.bel.trans (hbw.mono HI.out.1.bel.size)).grown hgr (by omega) (fun j e => by injection e with e; omega)
        · exact (hgr.block (G + 1) (by omega) (fun e => by injection e with e; omega)).trans (HI.out.1.t2.below hbw)
        · exact Nat.le_trans (Nat.le_trans hle hbw.size) hgr.size
        · refine TAtP.keep _ HB4.out.1 (fun b hb => ?_)
          have hbs : b < ((wr.alloc (.cells #[.int .i64 k3, .string nb3, .string mb3, .int .u64 b3, .int .i64 v3, .slice A3 q3 c3, .int .i64 k', .string nb', .string mb', .int .u64 b', .int .i64 v', .slice A' q c'] 25)).drew).heap.size := by
            rcases hb with hb | hb
            · have := Grow.lt HH.out.2.1 HI.out.1.bel.size b hb.1; omega
            · have : wr.drew.heap.size = wr.heap.size := rfl
              omega
          have hne : b ≠ G ∧ b ≠ G + 1 := by
            rcases hb with hb | hb
            · exact hb.2
            · have : wr.drew.heap.size = wr.heap.size := rfl
              omega
          refine ⟨⟨?_, hne⟩, (hgr.block b (by omega) (fun e => by injection e with e; omega)).trans (HB5.out.block b hbs)⟩
          rcases hb with hb | hb
          · rcases hb.1 with hb | hb
            · exact .inl hb
            · exact .inr ⟨hb.1, by have := hgr.size; omega⟩
          · have : wr.drew.heap.size = wr.heap.size := rfl
            exact .inr ⟨by omega, by have := hgr.size; omega⟩
      case measure =>
        show ((i : Int) - 1 + 1).toNat < ((i : Int) + 1).toNat
        omega
    | zero =>
      have ei : ((0 : Nat) : Int) - 1 = -1 := rfl
      rw [ei]
      have HI2 := Lib.hid (And.intro HI.out.1 (show endT ts T = .mk k' n' m' b' v' us' from HI.out.2))
      obtain ⟨u0, u1, u2, u3, u4, u5⟩ := HI.out.1.t2.cells rfl rfl
      obtain ⟨z0, z1, z2, z3, z4, z5⟩ := HI.out.1.t2.frozens
      clear HI ei hj
      go_wp2
      obtain ⟨hbx, hgr⟩ := HI2.out.1.t2.set6 (k := k') (b := b') (v := v') (n := n') (m := m') us' (.slice A' q c') HN.out.1 HN.out.2
      generalize (((((wr.setCell ⟨G + 1, 0, none⟩ (.int .i64 k')).setCell ⟨G + 1, 1, none⟩ (.string nb')).setCell ⟨G + 1, 2, none⟩ (.string mb')).setCell ⟨G + 1, 3, none⟩ (.int .u64 b')).setCell ⟨G + 1, 4, none⟩ (.int .i64 v')).setCell ⟨G + 1, 5, none⟩ (.slice A' q c') = w6 at *
      obtain ⟨r0, r1, r2, r3, r4, r5⟩ := hbx.cells HN.out.1 HN.out.2
      have hG := HG.out
      refine bodyPost_ret (v := .agg #[.int .i64 k', .string nb', .string mb', .int .u64 b', .int .i64 v', .slice A' q c']) (by simp [results, Tryd.results39, go_sem, r0, r1, r2, r3, r4, r5]) rfl ⟨.slice A' q c', by rw [HI2.out.2, valT_mk HN.out.1 HN.out.2], ?_, ?_⟩
      · rw [HI2.out.2]
        refine TAtP.keep _ HI2.out.1.kid (fun b hb => ⟨?_, hgr.block b (Grow.lt HH.out.2.1 HI2.out.1.bel.size b hb.1) (fun e => by injection e with e; exact hb.2.2 e)⟩)
        rcases hb.1 with hb | hb
        · exact .inl hb
        · exact .inr ⟨hb.1, Nat.lt_of_lt_of_le hb.2 hgr.size⟩
      · exact HI2.out.1.bel.grown hgr HI2.out.1.bel.size (fun j e => by injection e with e; omega)
end Go.Proofs.YtgfeainpeplphaaDoor
