import Derived.Test.YtggdmhkdmkldoaaVa
namespace Go.Proofs.Ytggdmhkdmkldoaa
open Go.RowKit Hb
set_option linter.unusedVariables false
set_option linter.unusedSimpArgs false

/-- at the head of the outer loop: the letters so far, what is left -/
def XtRel (W0 : World) (R N0 : Nat) (ov bv : Value) (wr : World) (N : Nat) : Prop :=
  ∃ A' c' Ab cb ds, ov = .slice A' ds.length c' ∧ bv = .slice Ab (digs 2 N).length cb ∧ digs R N0 = ds ++ digs R N ∧ OwnB wr W0.heap.size A' ds.length c' (u8s (ds.map chrN)) ∧ SlI wr wr.heap.size Ab (digs 2 N).length cb (digs 2 N) ∧ Below W0.heap.size W0 wr
theorem XtRel.len {R N0 N : Nat} {ds : List Nat} (h : digs R N0 = ds ++ digs R N) (hb : (digs R N0).length ≤ 4096) : ds.length ≤ 4096 := by
  rw [h, List.length_append] at hb; omega
theorem digs_len_k {R N k : Nat} (hR : 2 ≤ R) (hn : (digs 2 N).length ≤ k) : (digs R N).length ≤ k :=
  digs_length_le (b := R) (by omega) (Nat.lt_of_lt_of_le (lt_of_digs_length (b := 2) (by decide) hn) (Nat.pow_le_pow_left hR k))
theorem digs_len_x {R N : Nat} (hR : 2 ≤ R) (hn : (digs 2 N).length ≤ 4096) : (digs R N).length ≤ 4096 := digs_len_k hR hn
theorem own_u8 (w : World) (a : Nat) : OwnB (w.alloc (.cells #[.int .u8 (a : Int)] 5)) w.heap.size (some ⟨w.heap.size, 0, none⟩) 1 1 (u8s [a]) :=
  Own.of_block (xs := u8s [a]) (by exact heap_alloc_new w _) (Nat.le_refl _) (by simp [u8s, maxLen])
theorem chrN_lt {d : Nat} (h : d < 36) : chrN d < 256 := by unfold chrN; split <;> omega
set_option maxRecDepth 100000 in
set_option maxHeartbeats 4000000 in
theorem rText_any {x : Int} {B : Nat} {A : Option Addr} {c : Nat} {w : World} (hs : SlI w B A (digs 2 x.natAbs).length c (digs 2 x.natAbs)) (hB : B ≤ w.heap.size) (hn : (digs 2 x.natAbs).length ≤ 4096) (R : Nat) (hR1 : 2 ≤ R) (hR2 : R ≤ 36) :
    Calls Try.prog 30 #[.agg #[.bool (decide (x < 0)), .slice A (digs 2 x.natAbs).length c], .int .i64 (R : Int)] w fun e w' => e = .returned (.string (strN (txtZ x R))) ∧ Below w.heap.size w w' := by
  have hlz := len_zero'' (y := x)
  have HL := Lib.hid (digs_len_x hR1 hn)
  have HB := Lib.hid ((Below.refl w.heap.size w).alloc (Nat.le_refl _) (.cells #[.bool (decide (x < 0)), .slice A (digs 2 x.natAbs).length c] 28))
  have HX := Lib.hid (show (w.alloc (.cells #[.bool (decide (x < 0)), .slice A (digs 2 x.natAbs).length c] 28)).heap[w.heap.size]? = some (.cells #[.bool (decide (x < 0)), .slice A (digs 2 x.natAbs).length c] 28 (0, 0)) from heap_alloc_new w _)
  have HS := Lib.hid ((hs.below (C := w.heap.size) HB.out hB).mono (Nat.le_trans hB HB.out.size))
  have hsz : w.heap.size < (w.alloc (.cells #[.bool (decide (x < 0)), .slice A (digs 2 x.natAbs).length c] 28)).heap.size := by simp
  have hRI1 : (2 : Int) ≤ (R : Int) := by omega
  have hRI2 : (R : Int) ≤ 36 := by omega
  by_cases hx : x = 0
  · have hl0 := hlz.2 hx
    have HT := Lib.hid (show txtZ x R = [48] by rw [hx]; rfl)
    clear hlz hx hs
    generalize (digs 2 x.natAbs).length = n0 at *
    subst hl0
    generalize decide (x < 0) = s at *
    go_enter Try.func30, Try.ntmps30
    go_wp2
    go_ret
    exact ⟨ret_eq (by rw [HT.out]; rfl), HB.out⟩
  · have hl0 : ¬ (digs 2 x.natAbs).length = 0 := fun h => hx (hlz.1 h)
    have hlb : (((digs 2 x.natAbs).length : Int) == 0) = false := beq_eq_false_iff_ne.2 (by omega)
    have HR0 := Lib.hid (show XtRel (w.alloc (.cells #[.bool (decide (x < 0)), .slice A (digs 2 x.natAbs).length c] 28)) R x.natAbs (.slice none 0 0) (.slice A (digs 2 x.natAbs).length c) (w.alloc (.cells #[.bool (decide (x < 0)), .slice A (digs 2 x.natAbs).length c] 28)) x.natAbs from
      ⟨none, 0, A, c, [], rfl, rfl, by simp, ⟨rfl, .inl ⟨rfl, rfl⟩⟩, HS.out, Below.refl _ _⟩)
    have HNx := Lib.hid hx
    clear hlz hs hx
    go_enter Try.func30, Try.ntmps30
    go_upto_region 1 with fail
    obtain ⟨a0, a1, _, _⟩ := two_cells (C := (w.alloc (.cells #[.bool (decide (x < 0)), .slice A (digs 2 x.natAbs).length c] 28)).heap.size) (Below.refl _ _) HX.out hsz
    generalize (w.alloc (.cells #[.bool (decide (x < 0)), .slice A (digs 2 x.natAbs).length c] 28)) = W0 at *
    go_wp2_with fail
    go_loopw [5, 6] (fun ov bv wr => ∃ N : Nat, (digs 2 N).length ≤ 4096 ∧ XtRel W0 R x.natAbs ov bv wr N) (fun _ bv _ => match bv with | .slice _ n _ => n | _ => 0)
    case atStart => exact ⟨x.natAbs, hn, HR0.out⟩
    case round =>
      obtain ⟨N, hN, A', c', Ab, cb, ds, rfl, rfl, hdg, hob, hsl, hbw⟩ := hrel
      have HOB := Lib.hid hob
      have HSL := Lib.hid hsl
      have HBW := Lib.hid hbw
      have HDG := Lib.hid hdg
      have hdl := XtRel.len hdg HL.out
      have hbz := hbw.size
      clear hob hsl hbw hdg HR0
      by_cases hN0 : N = 0
      · subst hN0
        have hl9 : (digs 2 0).length = 0 := by rw [digs_zero]; rfl
        rw [hl9]
        have HDS := Lib.hid (show digs R x.natAbs = ds by have := HDG.out; rwa [digs_zero, List.append_nil] at this)
        have HNa := Lib.hid (show ¬ x.natAbs = 0 by have := HNx.out; omega)
        have hd1 : 0 < ds.length := by
          rw [← HDS.out]
          rcases Nat.eq_zero_or_pos (digs R x.natAbs).length with h | h
          · exact absurd ((digs_eq_nil (b := R) (by omega) _).1 (List.length_eq_zero_iff.1 h)) HNa.out
          · exact h
        obtain ⟨a0, a1, _, _⟩ := two_cells HBW.out HX.out hsz
        have HBX := Lib.hid (HB.out.trans (HBW.out.mono HB.out.size))
        have hdI : (ds.length : Int) ≤ 4096 := by omega
        clear hl9
        by_cases hneg : x < 0
        · have hdt := decide_eq_true hneg
          rw [hdt] at a0
          have HDT := Lib.hid hdt
          go_wp2_with (at_builtin; refine wpList_append_u8 (by rfl) _ _ (by rfl) W0.heap.size A' ds.length c' (ds.map chrN) (by rfl) (Own.alloc HOB.out _) wr.heap.size 45 (by rfl) ?hc (by omega) (by simp; omega) ?_; rotate_left; intro A5 c5 w5 ho5 hb5)
          case hc => exact cell_of_row _ _ 0 _ _ (0, 0) (heap_alloc_new wr _)
          have HBX5 := Lib.hid (HBX.out.trans (((Below.refl w.heap.size wr).alloc (Nat.le_trans HB.out.size hbz) _).trans (hb5.mono HB.out.size)))
          have HOL := Lib.hid ho5
          have HLL := Lib.hid (show (ds.map chrN ++ [45]).length = ds.length + 1 by simp)
          have HTX := Lib.hid (show txtZ x R = (ds.map chrN ++ [45]).reverse by
            rw [txtZ, txtL, if_neg HNa.out, HDS.out, HDT.out]; simp)
          obtain ⟨LL, hLL⟩ : ∃ LL, ds.map chrN ++ [45] = LL := ⟨_, rfl⟩
          obtain ⟨m, hm⟩ : ∃ m, ds.length + 1 = m := ⟨_, rfl⟩
          rw [hLL] at HOL HLL HTX
          try rw [hm] at HOL HLL ⊢
          have hm9 : (m : Int) ≤ 5000 := by omega
          have hm1 : 0 < m := by omega
          have hmI : (0 : Int) < (m : Int) := by omega
          have HBr := Lib.hid (show Below w.heap.size w w5 from HBX5.out)
          have HT0 := Lib.hid (show OwnB w5 w5.heap.size none (m - m) 0 (u8s (LL.drop m).reverse) by rw [Nat.sub_self, List.drop_eq_nil_of_le (by rw [HLL.out]; exact Nat.le_refl _)]; exact ⟨rfl, .inl ⟨rfl, rfl⟩⟩)
          have HMC := Lib.hid (show (ds.length : Int) + 1 = (m : Int) by omega)
          clear hLL hm ho5 hb5
          obtain ⟨w7, hw7⟩ : ∃ w7 : World, w7 = w5 := ⟨_, rfl⟩
          subst hw7
          go_wp2_with fail
          go_loopw [10, 11] (fun tv iv wr => ∃ (s : Nat) (A9 : Option Addr) (c9 : Nat), s ≤ m ∧ iv = .int .i64 ((s : Int) - 1) ∧ tv = .slice A9 (m - s) c9 ∧ OwnB wr w7.heap.size A9 (m - s) c9 (u8s (LL.drop s).reverse) ∧ Below w7.heap.size w7 wr) (fun _ iv _ => (intOf iv + 1).toNat)
          case atStart => exact ⟨m, none, 0, Nat.le_refl _, by first | rfl | exact congrArg (Value.int .i64) (by have := HMC.out; omega) | simp, by rw [Nat.sub_self], HT0.out, Below.refl _ _⟩
          case round =>
            obtain ⟨s, A9, c9, hs, rfl, rfl, ho9, hb9⟩ := hrel
            have HO9 := Lib.hid ho9
            have HB9 := Lib.hid hb9
            have hz9 := hb9.size
            clear ho9 hb9
            by_cases hs0 : s = 0
            · subst hs0
              have ho := HO9.out
              rw [Nat.sub_zero, List.drop_zero] at ho
              obtain ⟨g9, hg9, _, _⟩ := ho.at_ hm1
              subst hg9
              have hcv := conv_own ho (by rw [List.length_reverse]; exact HLL.out)
              have HBf := Lib.hid (HBr.out.trans (HB9.out.mono HBr.out.size))
              rw [Nat.sub_zero]
              clear ho
              go_wp2
              go_ret
              exact ⟨ret_eq (by rw [HTX.out, ← strNums_rev]; first | rfl | (rw [List.map_reverse]; rfl)), HBf.out⟩
            · obtain ⟨i, rfl⟩ : ∃ i, s = i + 1 := ⟨s - 1, by omega⟩
              have his : ((i + 1 : Nat) : Int) - 1 = (i : Int) := by omega
              rw [his]
              have hi0 : (0 : Int) ≤ (i : Int) := by omega
              have him : (i : Int) < (m : Int) := by omega
              have holl := HOL.out.below HB9.out (Nat.le_refl _)
              obtain ⟨g8, hg8, _, _⟩ := holl.at_ hm1
              subst hg8
              have hcell := holl.cell (j := i) (by omega)
              rw [u8s_get (by rw [HLL.out]; omega)] at hcell
              have HDr := Lib.hid (show (LL.drop i).reverse = (LL.drop (i + 1)).reverse ++ [LL.getD i 0] by
                rw [List.drop_eq_getElem_cons (by rw [HLL.out]; omega), List.reverse_cons, getD_eq (by rw [HLL.out]; omega)])
              generalize LL.getD i 0 = y at *
              obtain ⟨k, hk⟩ : ∃ k, m - (i + 1) = k := ⟨_, rfl⟩
              rw [hk] at HO9 ⊢
              have hk1 : m - i = k + 1 := by omega
              have hk9 : k ≤ 67108864 := by omega
              have HK := Lib.hid hk1
              clear holl hk hk1
              go_wp2_with (at_builtin; refine wpList_append_u8 (by rfl) _ _ (by rfl) w7.heap.size A9 k c9 (LL.drop (i + 1)).reverse (by rfl) (Own.alloc HO9.out _) wr.heap.size y (by rfl) (by simp [go_sem]) hk9 (by simp; omega) ?_; intro A4 c4 w4 ho4 hb4)
              have HR4 := Lib.hid (show OwnB w4 w7.heap.size A4 (m - i) c4 (u8s (LL.drop i).reverse) by rw [HDr.out, HK.out]; exact ho4)
              have HB4 := Lib.hid ((HB9.out.alloc hz9 _).trans hb4)
              clear ho4 hb4
              go_wp2_with fail
              go_roundw
              case rel => exact ⟨i, A4, c4, by omega, by go_num, by rw [HK.out], HR4.out, HB4.out⟩
              case measure => first | (simp [intOf]; done) | (simp [intOf]; omega)
        · have hdf := decide_eq_false hneg
          rw [hdf] at a0
          have HDF := Lib.hid hdf
          have HOL := Lib.hid (HOB.out)
          have HLL := Lib.hid (show (ds.map chrN).length = ds.length by simp)
          have HTX := Lib.hid (show txtZ x R = (ds.map chrN).reverse by
            rw [txtZ, txtL, if_neg HNa.out, HDS.out, HDF.out]; simp)
          obtain ⟨LL, hLL⟩ : ∃ LL, ds.map chrN = LL := ⟨_, rfl⟩
          obtain ⟨m, hm⟩ : ∃ m, ds.length = m := ⟨_, rfl⟩
          rw [hLL] at HOL HLL HTX
          try rw [hm] at HOL HLL ⊢
          have hm9 : (m : Int) ≤ 5000 := by omega
          have hm1 : 0 < m := by omega
          have hmI : (0 : Int) < (m : Int) := by omega
          have HBr := Lib.hid (show Below w.heap.size w wr from HBX.out)
          have HT0 := Lib.hid (show OwnB wr wr.heap.size none (m - m) 0 (u8s (LL.drop m).reverse) by rw [Nat.sub_self, List.drop_eq_nil_of_le (by rw [HLL.out]; exact Nat.le_refl _)]; exact ⟨rfl, .inl ⟨rfl, rfl⟩⟩)
          clear hLL hm
          obtain ⟨w7, hw7⟩ : ∃ w7 : World, w7 = wr := ⟨_, rfl⟩
          subst hw7
          go_wp2_with fail
          go_loopw [10, 11] (fun tv iv wr => ∃ (s : Nat) (A9 : Option Addr) (c9 : Nat), s ≤ m ∧ iv = .int .i64 ((s : Int) - 1) ∧ tv = .slice A9 (m - s) c9 ∧ OwnB wr w7.heap.size A9 (m - s) c9 (u8s (LL.drop s).reverse) ∧ Below w7.heap.size w7 wr) (fun _ iv _ => (intOf iv + 1).toNat)
          case atStart => exact ⟨m, none, 0, Nat.le_refl _, by first | rfl | exact congrArg (Value.int .i64) (by omega) | simp, by rw [Nat.sub_self], HT0.out, Below.refl _ _⟩
          case round =>
            obtain ⟨s, A9, c9, hs, rfl, rfl, ho9, hb9⟩ := hrel
            have HO9 := Lib.hid ho9
            have HB9 := Lib.hid hb9
            have hz9 := hb9.size
            clear ho9 hb9
            by_cases hs0 : s = 0
            · subst hs0
              have ho := HO9.out
              rw [Nat.sub_zero, List.drop_zero] at ho
              obtain ⟨g9, hg9, _, _⟩ := ho.at_ hm1
              subst hg9
              have hcv := conv_own ho (by rw [List.length_reverse]; exact HLL.out)
              have HBf := Lib.hid (HBr.out.trans (HB9.out.mono HBr.out.size))
              rw [Nat.sub_zero]
              clear ho
              go_wp2
              go_ret
              exact ⟨ret_eq (by rw [HTX.out, ← strNums_rev]; first | rfl | (rw [List.map_reverse]; rfl)), HBf.out⟩
            · obtain ⟨i, rfl⟩ : ∃ i, s = i + 1 := ⟨s - 1, by omega⟩
              have his : ((i + 1 : Nat) : Int) - 1 = (i : Int) := by omega
              rw [his]
              have hi0 : (0 : Int) ≤ (i : Int) := by omega
              have him : (i : Int) < (m : Int) := by omega
              have holl := HOL.out.below HB9.out (Nat.le_refl _)
              obtain ⟨g8, hg8, _, _⟩ := holl.at_ hm1
              subst hg8
              have hcell := holl.cell (j := i) (by omega)
              rw [u8s_get (by rw [HLL.out]; omega)] at hcell
              have HDr := Lib.hid (show (LL.drop i).reverse = (LL.drop (i + 1)).reverse ++ [LL.getD i 0] by
                rw [List.drop_eq_getElem_cons (by rw [HLL.out]; omega), List.reverse_cons, getD_eq (by rw [HLL.out]; omega)])
              generalize LL.getD i 0 = y at *
              obtain ⟨k, hk⟩ : ∃ k, m - (i + 1) = k := ⟨_, rfl⟩
              rw [hk] at HO9 ⊢
              have hk1 : m - i = k + 1 := by omega
              have hk9 : k ≤ 67108864 := by omega
              have HK := Lib.hid hk1
              clear holl hk hk1
              go_wp2_with (at_builtin; refine wpList_append_u8 (by rfl) _ _ (by rfl) w7.heap.size A9 k c9 (LL.drop (i + 1)).reverse (by rfl) (Own.alloc HO9.out _) wr.heap.size y (by rfl) (by simp [go_sem]) hk9 (by simp; omega) ?_; intro A4 c4 w4 ho4 hb4)
              have HR4 := Lib.hid (show OwnB w4 w7.heap.size A4 (m - i) c4 (u8s (LL.drop i).reverse) by rw [HDr.out, HK.out]; exact ho4)
              have HB4 := Lib.hid ((HB9.out.alloc hz9 _).trans hb4)
              clear ho4 hb4
              go_wp2_with fail
              go_roundw
              case rel => exact ⟨i, A4, c4, by omega, by go_num, by rw [HK.out], HR4.out, HB4.out⟩
              case measure => first | (simp [intOf]; done) | (simp [intOf]; omega)
      · have hnp : 0 < (digs 2 N).length := by
          rcases Nat.eq_zero_or_pos (digs 2 N).length with h | h
          · exact absurd ((digs_eq_nil (b := 2) (by decide) N).1 (List.length_eq_zero_iff.1 h)) hN0
          · exact h
        have HDR := Lib.hid (show digs R N = N % R :: digs R (N / R) from digs_pos (by omega) hN0)
        have HMs := Lib.hid (show (digs 2 (N / R)).length < (digs 2 N).length by
          rw [digs_pos (b := 2) (n := N) (by decide) hN0, List.length_cons]
          exact Nat.lt_succ_of_le (blen_mono (Nat.div_le_div_left (show 2 ≤ R by omega) (by decide))))
        have HD2 := Lib.hid (dig_digs (b := 2) (by decide) N)
        have HV2 := Lib.hid (nv_digs (b := 2) (by decide) N)
        obtain ⟨l, hl⟩ : ∃ l, digs 2 N = l := ⟨_, rfl⟩
        obtain ⟨n, hln⟩ : ∃ n, l.length = n := ⟨_, rfl⟩
        rw [hl] at HSL HMs HD2 HV2 hN hnp ⊢
        rw [hln] at HSL HMs hN hnp ⊢
        have HLN := Lib.hid hln
        clear hl hln
        have hmk := makeI n (by omega)
        have hnI : (n : Int) ≤ 4096 := by omega
        have hnI0 : (0 : Int) < (n : Int) := by omega
        obtain ⟨wo, hwo⟩ : ∃ wo : World, wo = wr := ⟨_, rfl⟩
        subst hwo
        obtain ⟨G, hG⟩ : ∃ G, wo.heap.size = G := ⟨_, rfl⟩
        have HG := Lib.hid hG
        have hGW : W0.heap.size ≤ G := by omega
        have HOQ := Lib.hid (show OwnI (wo.alloc (.cells (madeCells #[.int .i64 0] n) 3)) G (some ⟨G, 0, none⟩) n n (i64s (List.replicate n 0)) by
          have := own_zerosI wo (B := wo.heap.size) n (Nat.le_refl _) (by simp [maxLen]; omega); rwa [hG] at this)
        have KQ := Lib.hid (show Below G wo (wo.alloc (.cells (madeCells #[.int .i64 0] n) 3)) from (Below.refl G wo).alloc (by omega) _)
        have HI0 := Lib.hid (TxInv.start (R := R) HLN.out (by omega))
        have HSG := Lib.hid (show SlI wo G Ab n cb l by have := HSL.out; rwa [hG] at this)
        go_wp2_with fail
        try rw [hG]
        go_loopw [7, 9] (fun rv iv wr => ∃ (s rem : Nat) (Q : List Nat), s ≤ n ∧ iv = .int .i64 ((s : Int) - 1) ∧ rv = .int .i64 (rem : Int) ∧ Hid (TxInv l n R s Q rem) ∧ OwnI wr G (some ⟨G, 0, none⟩) n n (i64s Q) ∧ Below G wo wr) (fun _ iv _ => (intOf iv + 1).toNat)
        case atStart => exact ⟨n, 0, _, Nat.le_refl _, by first | rfl | simp, rfl, HI0, HOQ.out, KQ.out⟩
        case round =>
          obtain ⟨s, rem, Q, hs, rfl, rfl, HI, hoq, hbq⟩ := hrel
          have HQ := Lib.hid hoq
          have HBq := Lib.hid hbq
          have hbqz := hbq.size
          clear hoq hbq hG
          by_cases hs0 : s = 0
          · subst hs0
            obtain ⟨e1, e2⟩ := HI.out.done
            rw [HV2.out] at e1 e2
            have et : tr Q = digs 2 (N / R) := by rw [tr_eq_digs (b := 2) (by decide) HI.out.dq, e1]
            have em : tlen Q = (digs 2 (N / R)).length := by rw [← et, tr_length]
            have hcut := rcut_any (HQ.out.sl HI.out.dq HI.out.lq)
            rw [em] at hcut
            have HCut := Lib.hid hcut
            have htk := HQ.out.take (k := tlen Q) (by rw [← HI.out.lq]; exact tlen_le Q)
            rw [i64s_take] at htk
            have HTK := Lib.hid (show OwnI wr G (some ⟨G, 0, none⟩) (digs 2 (N / R)).length n (i64s (digs 2 (N / R))) by rw [← em, ← et]; exact htk)
            have hrr : rem < 36 := by have := HI.out.hr; omega
            have hrrI : (rem : Int) < 36 := by omega
            have HE2 := Lib.hid e2
            have HNE := Lib.hid (show A' ≠ some ⟨G, 0, none⟩ from fun e => by have h1 := (own_block HOB.out e).2; have h2 := HG.out; omega)
            have HO4 := Lib.hid (HOB.out.below HBq.out (Nat.le_of_eq HG.out))
            have hwz : wo.heap.size ≤ wr.heap.size := hbqz
            have hGr : G < wr.heap.size := (own_block HQ.out rfl).2
            have hW9 : W0.heap.size ≤ wr.heap.size := Nat.le_trans hbz hwz
            have hdl9 : ds.length + 1 ≤ 67108864 := by omega
            clear e1 e2 et em hcut htk
            go_wp2_with (first
              | (go_at_call 78; (with_reducible refine HCut.out.mono ?_); rintro e w2 ⟨rfl, rfl⟩)
              | (at_builtin; ((refine wpList_plain (by rfl) fun K hK => ?_); (refine wp_append_farB (base := W0.heap.size) (B := wr.heap.size + 1) (l0 := ds.map chrN) (l := [chrN rem]) (A := some ⟨wr.heap.size, 0, none⟩) (A0 := A') (n0 := ds.length) (c0 := c') (m := 1) (c := 1) _ _ (by rfl) (by rfl) (Own.alloc HO4.out _) (by rfl) (fun h => by cases h) ?hrd hdl9 (Nat.le_trans hW9 (by simp)) ?_); rotate_left; intro A'' c'' w4 ho4 hb4 hfar4 _; (refine hK _ _ ?_))))
            case hrd =>
              rw [alpha_get hrr]
              exact Sl.mono (Own.sl (own_u8 wr (chrN rem)) (Dig.cons (chrN_lt hrr) (Dig.nil _)) rfl) (by simp)
            have hq4 := (hfar4 G (by simp; omega) HNE.out).trans (heap_alloc_old wr _ (by omega))
            have hsl4 := Own.sl (Own.same HTK.out hq4) (dig_digs (b := 2) (by decide) (N / R)) rfl
            have hb49 := HBW.out.trans ((HBq.out.mono hGW).trans (((Below.refl W0.heap.size wr).alloc hW9 _).trans hb4))
            have HRN := Lib.hid (show XtRel W0 R x.natAbs (.slice A'' (ds.length + 1) c'') (.slice (some ⟨G, 0, none⟩) (digs 2 (N / R)).length n) w4 (N / R) from
              ⟨A'', c'', some ⟨G, 0, none⟩, n, ds ++ [rem], by simp, rfl, by rw [HDG.out, HDR.out, HE2.out]; simp, by rw [List.map_append, List.length_append]; exact ho4, hsl4, hb49⟩)
            clear hq4 hsl4 hb49 ho4 hb4 hfar4
            go_roundw
            case rel => exact ⟨N / R, by have := HMs.out; omega, HRN.out⟩
            case measure => exact HMs.out
          · obtain ⟨i, rfl⟩ : ∃ i, s = i + 1 := ⟨s - 1, by omega⟩
            have his : ((i + 1 : Nat) : Int) - 1 = (i : Int) := by omega
            rw [his]
            have hi0 : (0 : Int) ≤ (i : Int) := by omega
            have hin : (i : Int) < (n : Int) := by omega
            obtain ⟨b, off, rfl, _, hc⟩ := SlI.at_ (HSG.out.below HBq.out (Nat.le_refl _)) (by omega)
            have hy := hc i (by omega)
            have hyb := HD2.out.getD (b := 2) (by decide) i
            have hrem := HI.out.hr
            obtain ⟨t, ht⟩ : ∃ t, 2 * rem + l.getD i 0 = t := ⟨_, rfl⟩
            have HLo := Lib.hid (fun h => HI.out.low HLN.out (by omega) ht h)
            have HHi := Lib.hid (fun h => HI.out.high HLN.out HD2.out (by omega) ht h)
            generalize l.getD i 0 = y at *
            have hti : 2 * (rem : Int) + (y : Int) = (t : Int) := by omega
            have ht9 : (t : Int) ≤ 100 := by omega
            clear hc ht
            by_cases hge : R ≤ t
            · have hgeI : (R : Int) ≤ (t : Int) := by omega
              have hd9 : decide (R ≤ t) = true := decide_eq_true hge
              have hsub : (t : Int) - (R : Int) = ((t - R : Nat) : Int) := by omega
              have hqc := HQ.out.cell (j := i) (by omega)
              rw [i64s_get (by rw [HI.out.lq]; omega)] at hqc
              have hqf := HQ.out.frozen i
              generalize Q.getD i 0 = q0 at *
              have HQ2 := Lib.hid (show OwnI (wr.setCell ⟨G, i, none⟩ (.int .i64 1)) G (some ⟨G, 0, none⟩) n n (i64s (Q.set i 1)) by
                have := HQ.out.set_ i (.int .i64 ((1 : Nat) : Int)); rwa [i64s_set] at this)
              have HB2 := Lib.hid (HBq.out.setCell (p := ⟨G, i, none⟩) (Nat.le_refl _) (.int .i64 1))
              go_wp2_with fail
              go_roundw
              case rel => exact ⟨i, t - R, Q.set i 1, by omega, by go_num, by first | rfl | go_num, Lib.hid (HHi.out hge), HQ2.out, HB2.out⟩
              case measure => first | (simp [intOf]; done) | (simp [intOf]; omega)
            · have hgeI : ¬ (R : Int) ≤ (t : Int) := by omega
              have hd9 : decide (R ≤ t) = false := decide_eq_false hge
              go_wp2_with fail
              go_roundw
              case rel => exact ⟨i, t, Q, by omega, by go_num, rfl, Lib.hid (HLo.out (by omega)), HQ.out, HBq.out⟩
              case measure => first | (simp [intOf]; done) | (simp [intOf]; omega)
end Go.Proofs.Ytggdmhkdmkldoaa
