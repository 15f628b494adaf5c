import Derived.Test.YtggdmhkdmkldoaaVb
namespace Go.Proofs.Ytggdmhkdmkldoaa
open Go.RowKit Hb
set_option linter.unusedVariables false
set_option linter.unusedSimpArgs false

/-! ### the reference's Parse -/
def RpPost (w : World) (z code : Int) (e : Ending) (w' : World) : Prop :=
  ∃ v, e = .returned (.tuple #[v, .int .i64 code]) ∧ (code = 0 → ResB w' w.heap.size v z) ∧ (code ≠ 0 → v = zeroV) ∧ Below w.heap.size w w'
theorem RpPost.bad {w w' : World} {z co k : Int} (hco : co = k) (hk : k ≠ 0) (hb : Below w.heap.size w w') : RpPost w z co (.returned (.tuple #[zeroV, .int .i64 k])) w' := by
  subst hco; exact ⟨zeroV, rfl, fun h => absurd h hk, fun _ => rfl, hb⟩
set_option maxRecDepth 100000 in
set_option maxHeartbeats 1000000 in
theorem rParse_radix (s : ByteArray) (r : Int) (w : World) (hr : r < 2 ∨ 36 < r) (z : Int) (co : Int) (hco : co = 13) :
    Calls Try.prog 28 #[.string s, .int .i64 r] w (RpPost w z co) := by
  have HB := Lib.hid ((Below.refl w.heap.size w).alloc (Nat.le_refl _) (.cells #[.bool false, .slice none 0 0] 28))
  have HC := Lib.hid hco
  rcases hr with h | h
  · have d1 : decide (r < 2) = true := decide_eq_true h
    go_enter Try.func28, Try.ntmps28
    go_wp2
    exact bodyPost_ret (v := .tuple #[zeroV, .int .i64 13]) (by simp [results, Try.results28, go_sem]) rfl (RpPost.bad HC.out (by decide) HB.out)
  · have d1 : decide (r < 2) = false := decide_eq_false (by omega)
    have d2 : decide (36 < r) = true := decide_eq_true h
    go_enter Try.func28, Try.ntmps28
    go_wp2
    exact bodyPost_ret (v := .tuple #[zeroV, .int .i64 13]) (by simp [results, Try.results28, go_sem]) rfl (RpPost.bad HC.out (by decide) HB.out)
theorem bytes_nil {s : ByteArray} (h : s.size = 0) : s = ⟨#[]⟩ := by
  cases s with
  | mk d =>
    have : d.size = 0 := h
    rw [Array.eq_empty_of_size_eq_zero this]
theorem bytes_ne {s : ByteArray} (h : ¬ s.size = 0) : (s == (⟨#[]⟩ : ByteArray)) = false := by
  cases s with
  | mk d =>
    show (d == #[]) = false
    rw [beq_eq_false_iff_ne]
    rintro rfl
    exact h rfl
/-- the bits so far -/
def RpRel (W0 : World) (V : Nat) (bv : Value) (wr : World) : Prop :=
  ∃ A c, bv = .slice A (digs 2 V).length c ∧ OwnI wr W0.heap.size A (digs 2 V).length c (i64s (digs 2 V)) ∧ Below W0.heap.size W0 wr
theorem RpRel.start (W0 : World) : RpRel W0 0 (.slice none 0 0) W0 :=
  ⟨none, 0, by rw [digs_zero]; rfl, by rw [digs_zero]; exact ⟨rfl, .inl ⟨rfl, rfl⟩⟩, Below.refl _ _⟩
/-- within a digit's multiplication -/
structure RmInv (l : List Nat) (n r d k cy : Nat) (O : List Nat) : Prop where
  lo : O.length = k
  dO : Dig 2 O
  hc : cy ≤ 36
  hb : n ≤ k → k + cy ≤ n + 36
  hv : nv 2 O + 2 ^ k * cy = nvp 2 l k * r + d
theorem RmInv.step {l O : List Nat} {n r d k cy y t : Nat} (h : RmInv l n r d k cy O) (hl : l.length = n) (hr : r ≤ 36) (hy : l.getD k 0 = y) (hy2 : y < 2) (ht : y * r + cy = t) (hgo : k < n ∨ 0 < cy) : RmInv l n r d (k + 1) (t / 2) (O ++ [t % 2]) := by
  have hyr : y * r ≤ 36 := by
    rcases (by omega : y = 0 ∨ y = 1) with e | e <;> rw [e] <;> omega
  refine ⟨by rw [List.length_append, h.lo]; rfl, h.dO.append (Dig.cons (Nat.mod_lt _ (by decide)) (Dig.nil _)), by have := h.hc; omega, fun hk => ?_, ?_⟩
  · rcases Nat.lt_or_ge k n with h1 | h1
    · have := h.hc; omega
    · have hy0 : y = 0 := by rw [← hy]; exact getD_past (by omega)
      rw [hy0, Nat.zero_mul, Nat.zero_add] at ht
      have := h.hb h1
      omega
  · rw [nv_snoc, h.lo, nvp_succ, hy, Nat.add_mul, pow_succ_mul, Nat.add_assoc, ← Nat.mul_add]
    have h1 := h.hv
    have h2 : t % 2 + 2 * (t / 2) = y * r + cy := by omega
    rw [h2, Nat.mul_add, Nat.mul_assoc]
    omega
set_option maxRecDepth 100000 in
set_option maxHeartbeats 4000000 in
theorem rParse_good (s : ByteArray) (r : Nat) (w : World) (hs : s.size ≤ 1048576) (hr : 2 ≤ r) (hr2 : r ≤ 36) :
    Calls Try.prog 28 #[.string s, .int .i64 (r : Int)] w (RpPost w (pVal s.data.toList r) (pCode s.data.toList r)) := by
  have HB := Lib.hid ((Below.refl w.heap.size w).alloc (Nat.le_refl _) (.cells #[.bool false, .slice none 0 0] 28))
  have d1 : decide ((r : Int) < 2) = false := decide_eq_false (by omega)
  have d2 : decide ((36 : Int) < (r : Int)) = false := decide_eq_false (by omega)
  have HP := pNeg_cases s
  rcases HP with ⟨h1, hng⟩ | ⟨h1, hb, hng⟩ | ⟨h1, hb, hng, hs2, hsz2⟩
  · obtain ⟨s', hs'⟩ : ∃ s' : ByteArray, s' = s := ⟨_, rfl⟩
    have HS' := Lib.hid (And.intro (show s'.data.toList = pRest s.data.toList by rw [hs', pRest, hng]; rfl) hng)
    have d5 : decide ((0 : Int) < (s'.size : Int)) = false := decide_eq_false (by rw [hs']; omega)
    have d6 : decide (0 < s'.size) = false := decide_eq_false (by rw [hs']; omega)
    have hm : s'.size ≤ 1048576 := by rw [hs']; omega
    have he0 : s'.size = 0 := by rw [hs']; exact h1
    rw [show (Value.string s) = .string s' by rw [hs']]
    clear hng h1 hs'
    go_enter Try.func28, Try.ntmps28
    have e1 := str_empty he0
    have HC := Lib.hid (pCode_bad hr hr2 (pBad_empty (r := r) HS'.out.1 he0))
    have hse : s' = ⟨#[]⟩ := bytes_nil he0
    subst hse
    go_wp2
    exact bodyPost_ret (v := .tuple #[zeroV, .int .i64 12]) (by simp [results, Try.results28, go_sem]) rfl (RpPost.bad HC.out (by decide) HB.out)
  · obtain ⟨s', hs'⟩ : ∃ s' : ByteArray, s' = s := ⟨_, rfl⟩
    have HS' := Lib.hid (And.intro (show s'.data.toList = pRest s.data.toList by rw [hs', pRest, hng]; rfl) hng)
    have d5 : decide ((0 : Int) < (s'.size : Int)) = true := decide_eq_true (by rw [hs']; omega)
    have d6 : decide (0 < s'.size) = true := decide_eq_true (by rw [hs']; exact h1)
    have hm : s'.size ≤ 1048576 := by rw [hs']; omega
    have he : ¬ s'.size = 0 := by rw [hs']; omega
    have hb9 : ∃ h : 0 < s'.size, s'[0].toNat ≠ 45 := by subst hs'; exact ⟨h1, hb⟩
    obtain ⟨h19, hb8⟩ := hb9
    rw [show (Value.string s) = .string s' by rw [hs']]
    have q2 : (((s'[0]'h19).toNat : Int) == 45) = false := beq_eq_false_iff_ne.2 (by omega)
    clear hng h1 hs' hb hs hb8
    go_enter Try.func28, Try.ntmps28
    have hse : ¬ s'.size = 0 := he
    have q1 := str_full hse
    go_wp2_with fail
    go_loop [7] (fun i => ∃ k : Nat, k ≤ s'.size ∧ i = .int .i64 k ∧ Hid (∀ j, j < k → (sdig s'.data.toList).getD j 0 < r)) (fun i => s'.size - (intOf i).toNat)
    case atStart => exact ⟨0, Nat.zero_le _, rfl, Lib.hid (fun j hj => absurd hj (Nat.not_lt_zero _))⟩
    case round =>
      obtain ⟨k, hk, rfl, hdj⟩ := hrel
      by_cases hks : k < s'.size
      · have hk0 : (0 : Int) ≤ (k : Int) := by omega
        have hk1 : (k : Int) < (s'.size : Int) := by omega
        have HV := Lib.hid (fun w1 => rdigit_any s'[k].toNat w1 (UInt8.toNat_lt _))
        have HG := Lib.hid (sdig_get s' hks)
        have H12 := Lib.hid (fun h => pBad_at (r := r) HS'.out.1 hks h)
        generalize hdv : dval s'[k].toNat = dv at *
        by_cases hlt : dv < r
        · have d3 : decide ((r : Int) ≤ (dv : Int)) = false := decide_eq_false (by omega)
          have d4 : decide (r ≤ dv) = false := decide_eq_false (by omega)
          clear hdv
          go_wp2_with (go_at_call 76; (with_reducible refine (HV.out _).mono ?_); rintro e w' ⟨rfl, rfl⟩)
          go_round
          case rel => exact ⟨k + 1, by omega, by go_num, Lib.hid (fun j hj => by
            rcases Nat.lt_or_ge j k with h | h
            · exact hdj.out j h
            · obtain rfl : j = k := by omega
              rw [HG.out]; exact hlt)⟩
          case measure => simp [intOf]; omega
        · have d3 : decide ((r : Int) ≤ (dv : Int)) = true := decide_eq_true (by omega)
          have d4 : decide (r ≤ dv) = true := decide_eq_true (by omega)
          have HC := Lib.hid (pCode_bad hr hr2 (H12.out (by omega)))
          clear hdv
          go_wp2_with (go_at_call 76; (with_reducible refine (HV.out _).mono ?_); rintro e w' ⟨rfl, rfl⟩)
          exact bodyPost_ret (v := .tuple #[zeroV, .int .i64 12]) (by simp [results, Try.results28, go_sem]) rfl (RpPost.bad HC.out (by decide) HB.out)
      · obtain rfl : k = s'.size := by omega
        have HBd := Lib.hid (pBad_none HS'.out.1 hse hdj.out)
        have HDJ := hdj
        have hW0z : w.heap.size < (w.alloc (.cells #[.bool false, .slice none 0 0] 28)).heap.size := by simp
        have HX := Lib.hid (show (w.alloc (.cells #[.bool false, .slice none 0 0] 28)).heap[w.heap.size]? = some (.cells #[.bool false, .slice none 0 0] 28 (0, 0)) from heap_alloc_new w _)
        go_wp2_with fail
        generalize (w.alloc (.cells #[.bool false, .slice none 0 0] 28)) = W0 at *
        have HR0 := Lib.hid (RpRel.start W0)
        go_loopw [8, 9] (fun bv iv wr => ∃ i : Nat, i ≤ s'.size ∧ iv = .int .i64 (i : Int) ∧ (digs 2 (pval r ((sdig s'.data.toList).take i))).length ≤ 8192 ∧ RpRel W0 (pval r ((sdig s'.data.toList).take i)) bv wr) (fun _ iv _ => s'.size - (intOf iv).toNat)
        case atStart => exact ⟨0, Nat.zero_le _, rfl, by rw [List.take_zero]; simp [pval, digs_zero], by rw [List.take_zero]; exact HR0.out⟩
        case round =>
          obtain ⟨i, hi, rfl, hn8, A1, c1, rfl, ho1, hb1⟩ := hrel
          have HO := Lib.hid ho1
          have HB1 := Lib.hid hb1
          have hz1 := hb1.size
          obtain ⟨V, hV⟩ : ∃ V, pval r ((sdig s'.data.toList).take i) = V := ⟨_, rfl⟩
          rw [hV] at HO hn8 ⊢
          have HV9 := Lib.hid hV
          have hi0 : (0 : Int) ≤ (i : Int) := by omega
          clear ho1 hb1 HR0 hV
          obtain ⟨n, hn⟩ : ∃ n, (digs 2 V).length = n := ⟨_, rfl⟩
          have HN := Lib.hid hn
          rw [hn] at HO hn8 ⊢
          clear hn
          by_cases hgo : i < s'.size ∧ n ≤ 4096
          · have hiI : (i : Int) < (s'.size : Int) := by omega
            have hnI : (n : Int) ≤ 4096 := by omega
            have hd6' : decide (i < s'.size) = true := decide_eq_true hgo.1
            have hd7' : decide (n ≤ 4096) = true := decide_eq_true hgo.2
            have hd := HDJ.out i hgo.1
            have HSn := Lib.hid (show pval r ((sdig s'.data.toList).take (i + 1)) = V * r + dval s'[i].toNat by
              rw [List.take_succ_eq_append_getElem (by rw [sdig_length]; exact hgo.1), pval_snoc, HV9.out, ← sdig_get s' hgo.1, getD_eq (by rw [sdig_length]; exact hgo.1)])
            rw [sdig_get s' hgo.1] at hd
            have HVd := Lib.hid (fun w1 => rdigit_any s'[i].toNat w1 (UInt8.toNat_lt _))
            generalize dval s'[i].toNat = d at *
            obtain ⟨wo, hwo⟩ : ∃ wo : World, wo = wr := ⟨_, rfl⟩
            subst hwo
            have HDl := Lib.hid (dig_digs (b := 2) (by decide) V)
            have HVl := Lib.hid (nv_digs (b := 2) (by decide) V)
            generalize digs 2 V = l at *
            go_wp2_with (go_at_call 76; (with_reducible refine (HVd.out _).mono ?_); rintro e w' ⟨rfl, rfl⟩)
            go_loopw [10, 11, 12] (fun cv ov kv wr => ∃ (k cy : Nat) (O : List Nat) (A2 : Option Addr) (c2 : Nat), kv = .int .i64 (k : Int) ∧ cv = .int .i64 (cy : Int) ∧ ov = .slice A2 k c2 ∧ Hid (RmInv l n r d k cy O) ∧ OwnI wr wo.heap.size A2 k c2 (i64s O) ∧ Below wo.heap.size wo wr) (fun cv _ kv _ => (n - (intOf kv).toNat) * 100 + (intOf cv).toNat)
            case atStart => exact ⟨0, d, [], none, 0, rfl, rfl, rfl, Lib.hid ⟨rfl, Dig.nil _, by omega, fun _ => by omega, by simp [nvp_zero, nv]⟩, ⟨rfl, .inl ⟨rfl, rfl⟩⟩, Below.refl _ _⟩
            case round =>
              obtain ⟨k, cy, O, A2, c2, rfl, rfl, rfl, HI, ho2, hb2⟩ := hrel
              have HO2 := Lib.hid ho2
              have HB2 := Lib.hid hb2
              have hz2 := hb2.size
              have hk0 : (0 : Int) ≤ (k : Int) := by omega
              have hcy := HI.out.hc
              clear ho2 hb2
              by_cases hin : k < n ∨ 0 < cy
              · have hk5 : k ≤ 5000 := by
                  rcases Nat.lt_or_ge k n with h | h
                  · omega
                  · have := HI.out.hb h; omega
                have HBt := Lib.hid (show Calls Try.prog 77 #[.slice A1 n c1, .int .i64 (k : Int)] wr (fun e w' => e = .returned (.int .i64 (l.getD k 0 : Nat)) ∧ wr = w') from by
                  have h := rbit_any ((HO.out.sl HDl.out HN.out).below (C := wo.heap.size) HB2.out (Nat.le_refl _)) (k : Int)
                  rwa [bitZ_nat] at h)
                have hyb := HDl.out.getD (b := 2) (by decide) k
                have HSt := Lib.hid (fun y t (hy : l.getD k 0 = y) (hy2 : y < 2) (ht : y * r + cy = t) => HI.out.step HN.out hr2 hy hy2 ht hin)
                obtain ⟨y, hy⟩ : ∃ y, l.getD k 0 = y := ⟨_, rfl⟩
                rw [hy] at HBt hyb
                obtain ⟨p, hp⟩ : ∃ p, y * r = p := ⟨_, rfl⟩
                have hpi : (y : Int) * (r : Int) = (p : Int) := by rw [← hp]; simp
                have hp36 : p ≤ 36 := by
                  rcases (by omega : y = 0 ∨ y = 1) with e | e <;> rw [← hp, e] <;> omega
                obtain ⟨t, ht⟩ : ∃ t, p + cy = t := ⟨_, rfl⟩
                have HS1 := Lib.hid (HSt.out y t hy hyb (by rw [hp]; exact ht))
                have hti : (p : Int) + (cy : Int) = (t : Int) := by omega
                have ht9 : (t : Int) ≤ 72 := by omega
                have htm : (t : Int).tmod 2 = ((t % 2 : Nat) : Int) := by rw [Int.tmod_eq_emod_of_nonneg (by omega)]; omega
                have htd : (t : Int).tdiv 2 = ((t / 2 : Nat) : Int) := by rw [Int.tdiv_eq_ediv_of_nonneg (by omega)]; omega
                have hk5I : k ≤ 4294967296 := by omega
                have hkI5 : (k : Int) ≤ 5000 := by omega
                have HME := Lib.hid (show (n - (k + 1)) * 100 + t / 2 < (n - k) * 100 + cy by
                  rcases Nat.lt_or_ge k n with h | h
                  · omega
                  · have hy0 : y = 0 := by rw [← hy]; exact getD_past (by rw [HN.out]; exact h)
                    rw [hy0, Nat.zero_mul] at hp
                    omega)
                clear hy hp ht HSt
                by_cases hkn : k < n
                case' pos =>
                  have hkI : (k : Int) < (n : Int) := by omega
                  have hkd : decide (k < n) = true := decide_eq_true hkn
                case' neg =>
                  have hkI : ¬ (k : Int) < (n : Int) := by omega
                  have hkd : decide (k < n) = false := decide_eq_false hkn
                  have hcyI : (0 : Int) < (cy : Int) := by omega
                  have hcyd : decide (0 < cy) = true := decide_eq_true (by omega)
                all_goals
                  go_wp2_with (first
                    | (go_at_call 77; (with_reducible refine HBt.out.mono ?_); rintro e w' ⟨rfl, rfl⟩)
                    | (at_builtin; refine wpList_append_i64 (by rfl) _ _ (by rfl) wo.heap.size A2 k c2 O (by rfl) (Own.alloc HO2.out _) wr.heap.size (t % 2) (by rfl) (by simp [go_sem]) hk5I (by simp; omega) ?_; intro A4 c4 w4 ho4 hb4))
                  have HO4 := Lib.hid ho4
                  have HB4 := Lib.hid ((HB2.out.alloc hz2 _).trans hb4)
                  clear ho4 hb4
                  go_wp2_with fail
                  go_roundw
                  case rel => exact ⟨k + 1, t / 2, O ++ [t % 2], A4, c4, by go_num, by first | rfl | go_num, rfl, HS1, HO4.out, HB4.out⟩
                  case measure => first | exact HME.out | (have := HME.out; simp [intOf]; omega)
              · have hkn : n ≤ k := by omega
                have hcy0 : cy = 0 := by omega
                subst hcy0
                have hk9 := HI.out.hb hkn
                have hv := HI.out.hv
                rw [Nat.mul_zero, Nat.add_zero, nvp_all (by rw [HN.out]; exact hkn), HVl.out] at hv
                have et : tr O = digs 2 (V * r + d) := by rw [tr_eq_digs (b := 2) (by decide) HI.out.dO, hv]
                have em : tlen O = (digs 2 (V * r + d)).length := by rw [← et, tr_length]
                have hcut := rcut_any (HO2.out.sl HI.out.dO HI.out.lo)
                rw [em] at hcut
                have HCut := Lib.hid hcut
                have hml : tlen O ≤ k := by rw [← HI.out.lo]; exact tlen_le O
                have htk := HO2.out.take hml
                rw [i64s_take] at htk
                have HR2 := Lib.hid (show RpRel W0 (pval r ((sdig s'.data.toList).take (i + 1))) (.slice A2 (digs 2 (V * r + d)).length c2) wr from by
                  rw [HSn.out]
                  exact ⟨A2, c2, rfl, by rw [← em, ← et]; exact Own.mono htk hz1, HB1.out.trans (HB2.out.mono hz1)⟩)
                have HLe := Lib.hid (show (digs 2 (pval r ((sdig s'.data.toList).take (i + 1)))).length ≤ 8192 by rw [HSn.out, ← em]; omega)
                have hk1 : decide (k < n) = false := decide_eq_false (by omega)
                have hk2 : ¬ (k : Int) < (n : Int) := by omega
                clear hcut htk et em hv hml
                go_wp2_with (go_at_call 78; (with_reducible refine HCut.out.mono ?_); rintro e w2 ⟨rfl, rfl⟩)
                go_roundw
                case rel => exact ⟨i + 1, by omega, by go_num, HLe.out, HR2.out⟩
                case measure => simp [intOf]; omega
          · have HPR := Lib.hid HS'.out.1
            by_cases hbig : n ≤ 4096
            · obtain rfl : i = s'.size := by omega
              have hVall := HV9.out
              rw [List.take_of_length_le (by rw [sdig_length]; exact Nat.le_refl _), HPR.out] at hVall
              have hVlt := lt_of_digs_length (b := 2) (n := V) (k := 4096) (by decide) (by rw [HN.out]; exact hbig)
              have HC := Lib.hid (pCode_ok hr hr2 HBd.out (by rw [hVall]; exact hVlt))
              have HZ := Lib.hid (show bval false (digs 2 V) = pVal s.data.toList (r : Int) by
                unfold bval pVal
                rw [nv_digs (by decide), HS'.out.2, Int.toNat_natCast, hVall])
              have hd6' : decide (s'.size < s'.size) = false := decide_eq_false (by omega)
              have hbigI : ¬ (4096 : Int) < (n : Int) := by omega
              have hbd : decide (4096 < n) = false := decide_eq_false (by omega)
              have HDl := Lib.hid (dig_digs (b := 2) (by decide) V)
              clear hVall hVlt
              generalize pVal s.data.toList (r : Int) = z at *
              generalize digs 2 V = l at *
              go_wp2_with fail
              (with_reducible refine (rlaid_at false HO.out HN.out HDl.out HZ.out).mono ?_)
              rintro ex w5 ⟨rfl, ho5, hb5⟩
              obtain ⟨r0, r1, r2, r3⟩ := two_cells (HB1.out.trans (hb5.mono hz1)) HX.out hW0z
              have HO5 := Lib.hid ho5
              have HB5 := Lib.hid (HB.out.trans ((HB1.out.trans (hb5.mono hz1)).mono HB.out.size))
              clear ho5 hb5
              go_wp2
              have hrr := ResB.stored (w := w) (g := w.heap.size) (u := .bool (decide (z < 0))) (u' := .slice A1 (digs 2 z.natAbs).length c1) ⟨A1, c1, rfl, HO5.out⟩ HB5.out (by omega) (by omega)
              exact bodyPost_ret (v := .tuple #[.agg #[.bool (decide (z < 0)), .slice A1 (digs 2 z.natAbs).length c1], .int .i64 0]) (by simp [results, Try.results28, go_sem, r0, r1]) rfl
                ⟨_, by rw [HC.out], fun _ => hrr.1, fun h => absurd HC.out h, hrr.2⟩
            · have hVge : ¬ V < 2 ^ 4096 := fun h => hbig (by rw [← HN.out]; exact digs_length_le (by decide) h)
              have HC := Lib.hid (pCode_long hr hr2 HBd.out i (by rw [← HPR.out, HV9.out]; exact hVge))
              have hbigI : (4096 : Int) < (n : Int) := by omega
              have hbd : decide (4096 < n) = true := decide_eq_true (by omega)
              have hbd2 : decide (n ≤ 4096) = false := decide_eq_false (by omega)
              have hbI2 : ¬ (n : Int) ≤ 4096 := by omega
              obtain ⟨r0, r1, r2, r3⟩ := two_cells HB1.out HX.out hW0z
              have HB5 := Lib.hid (HB.out.trans (HB1.out.mono HB.out.size))
              clear hVge
              by_cases his : i < s'.size
              case' pos =>
                have hisI : (i : Int) < (s'.size : Int) := by omega
                have hisd : decide (i < s'.size) = true := decide_eq_true his
              case' neg =>
                have hisI : ¬ (i : Int) < (s'.size : Int) := by omega
                have hisd : decide (i < s'.size) = false := decide_eq_false his
              all_goals
                go_wp2
                exact bodyPost_ret (v := .tuple #[zeroV, .int .i64 10]) (by simp [results, Try.results28, go_sem, r0, r1]) rfl
                  (RpPost.bad HC.out (by decide) ((HB5.out.setCell (Nat.le_refl _) _).setCell (Nat.le_refl _) _))
  · obtain ⟨s', hs'⟩ : ∃ s', s.extract 1 s.size = s' := ⟨_, rfl⟩
    have HS' := Lib.hid (And.intro (show s'.data.toList = pRest s.data.toList by rw [pRest, hng, if_pos rfl, ← hs2, hs']) hng)
    rw [hs'] at hsz2
    have hsz3 : s.size - 1 = s'.size := hsz2.symm
    have d5 : decide ((0 : Int) < (s.size : Int)) = true := decide_eq_true (by omega)
    have d6 : decide (0 < s.size) = true := decide_eq_true h1
    have hm : s'.size ≤ 1048576 := by omega
    have q2 : (((s[0]'h1).toNat : Int) == 45) = true := by rw [hb]; rfl
    clear hng hs2 hsz2
    go_enter Try.func28, Try.ntmps28
    by_cases he : s'.size = 0
    · have e1 := str_empty he
      have HC := Lib.hid (pCode_bad hr hr2 (pBad_empty (r := r) HS'.out.1 he))
      go_wp2
      exact bodyPost_ret (v := .tuple #[zeroV, .int .i64 12]) (by simp [results, Try.results28, go_sem]) rfl (RpPost.bad HC.out (by decide) HB.out)
    · skip
      have hse : ¬ s'.size = 0 := he
      have q1 := str_full hse
      go_wp2_with fail
      clear hs' hsz3 hb d1 d2 d5 d6 h1 hs q2
      go_loop [7] (fun i => ∃ k : Nat, k ≤ s'.size ∧ i = .int .i64 k ∧ Hid (∀ j, j < k → (sdig s'.data.toList).getD j 0 < r)) (fun i => s'.size - (intOf i).toNat)
      case atStart => exact ⟨0, Nat.zero_le _, rfl, Lib.hid (fun j hj => absurd hj (Nat.not_lt_zero _))⟩
      case round =>
        obtain ⟨k, hk, rfl, hdj⟩ := hrel
        by_cases hks : k < s'.size
        · have hk0 : (0 : Int) ≤ (k : Int) := by omega
          have hk1 : (k : Int) < (s'.size : Int) := by omega
          have HV := Lib.hid (fun w1 => rdigit_any s'[k].toNat w1 (UInt8.toNat_lt _))
          have HG := Lib.hid (sdig_get s' hks)
          have H12 := Lib.hid (fun h => pBad_at (r := r) HS'.out.1 hks h)
          generalize hdv : dval s'[k].toNat = dv at *
          by_cases hlt : dv < r
          · have d3 : decide ((r : Int) ≤ (dv : Int)) = false := decide_eq_false (by omega)
            have d4 : decide (r ≤ dv) = false := decide_eq_false (by omega)
            clear hdv
            go_wp2_with (go_at_call 76; (with_reducible refine (HV.out _).mono ?_); rintro e w' ⟨rfl, rfl⟩)
            go_round
            case rel => exact ⟨k + 1, by omega, by go_num, Lib.hid (fun j hj => by
              rcases Nat.lt_or_ge j k with h | h
              · exact hdj.out j h
              · obtain rfl : j = k := by omega
                rw [HG.out]; exact hlt)⟩
            case measure => simp [intOf]; omega
          · have d3 : decide ((r : Int) ≤ (dv : Int)) = true := decide_eq_true (by omega)
            have d4 : decide (r ≤ dv) = true := decide_eq_true (by omega)
            have HC := Lib.hid (pCode_bad hr hr2 (H12.out (by omega)))
            clear hdv
            go_wp2_with (go_at_call 76; (with_reducible refine (HV.out _).mono ?_); rintro e w' ⟨rfl, rfl⟩)
            exact bodyPost_ret (v := .tuple #[zeroV, .int .i64 12]) (by simp [results, Try.results28, go_sem]) rfl (RpPost.bad HC.out (by decide) HB.out)
        · obtain rfl : k = s'.size := by omega
          have HBd := Lib.hid (pBad_none HS'.out.1 hse hdj.out)
          have HDJ := hdj
          have hW0z : w.heap.size < (w.alloc (.cells #[.bool false, .slice none 0 0] 28)).heap.size := by simp
          have HX := Lib.hid (show (w.alloc (.cells #[.bool false, .slice none 0 0] 28)).heap[w.heap.size]? = some (.cells #[.bool false, .slice none 0 0] 28 (0, 0)) from heap_alloc_new w _)
          go_wp2_with fail
          generalize (w.alloc (.cells #[.bool false, .slice none 0 0] 28)) = W0 at *
          have HR0 := Lib.hid (RpRel.start W0)
          go_loopw [8, 9] (fun bv iv wr => ∃ i : Nat, i ≤ s'.size ∧ iv = .int .i64 (i : Int) ∧ (digs 2 (pval r ((sdig s'.data.toList).take i))).length ≤ 8192 ∧ RpRel W0 (pval r ((sdig s'.data.toList).take i)) bv wr) (fun _ iv _ => s'.size - (intOf iv).toNat)
          case atStart => exact ⟨0, Nat.zero_le _, rfl, by rw [List.take_zero]; simp [pval, digs_zero], by rw [List.take_zero]; exact HR0.out⟩
          case round =>
            obtain ⟨i, hi, rfl, hn8, A1, c1, rfl, ho1, hb1⟩ := hrel
            have HO := Lib.hid ho1
            have HB1 := Lib.hid hb1
            have hz1 := hb1.size
            obtain ⟨V, hV⟩ : ∃ V, pval r ((sdig s'.data.toList).take i) = V := ⟨_, rfl⟩
            rw [hV] at HO hn8 ⊢
            have HV9 := Lib.hid hV
            have hi0 : (0 : Int) ≤ (i : Int) := by omega
            clear ho1 hb1 HR0 hV
            obtain ⟨n, hn⟩ : ∃ n, (digs 2 V).length = n := ⟨_, rfl⟩
            have HN := Lib.hid hn
            rw [hn] at HO hn8 ⊢
            clear hn
            by_cases hgo : i < s'.size ∧ n ≤ 4096
            · have hiI : (i : Int) < (s'.size : Int) := by omega
              have hnI : (n : Int) ≤ 4096 := by omega
              have hd6' : decide (i < s'.size) = true := decide_eq_true hgo.1
              have hd7' : decide (n ≤ 4096) = true := decide_eq_true hgo.2
              have hd := HDJ.out i hgo.1
              have HSn := Lib.hid (show pval r ((sdig s'.data.toList).take (i + 1)) = V * r + dval s'[i].toNat by
                rw [List.take_succ_eq_append_getElem (by rw [sdig_length]; exact hgo.1), pval_snoc, HV9.out, ← sdig_get s' hgo.1, getD_eq (by rw [sdig_length]; exact hgo.1)])
              rw [sdig_get s' hgo.1] at hd
              have HVd := Lib.hid (fun w1 => rdigit_any s'[i].toNat w1 (UInt8.toNat_lt _))
              generalize dval s'[i].toNat = d at *
              obtain ⟨wo, hwo⟩ : ∃ wo : World, wo = wr := ⟨_, rfl⟩
              subst hwo
              have HDl := Lib.hid (dig_digs (b := 2) (by decide) V)
              have HVl := Lib.hid (nv_digs (b := 2) (by decide) V)
              generalize digs 2 V = l at *
              go_wp2_with (go_at_call 76; (with_reducible refine (HVd.out _).mono ?_); rintro e w' ⟨rfl, rfl⟩)
              go_loopw [10, 11, 12] (fun cv ov kv wr => ∃ (k cy : Nat) (O : List Nat) (A2 : Option Addr) (c2 : Nat), kv = .int .i64 (k : Int) ∧ cv = .int .i64 (cy : Int) ∧ ov = .slice A2 k c2 ∧ Hid (RmInv l n r d k cy O) ∧ OwnI wr wo.heap.size A2 k c2 (i64s O) ∧ Below wo.heap.size wo wr) (fun cv _ kv _ => (n - (intOf kv).toNat) * 100 + (intOf cv).toNat)
              case atStart => exact ⟨0, d, [], none, 0, rfl, rfl, rfl, Lib.hid ⟨rfl, Dig.nil _, by omega, fun _ => by omega, by simp [nvp_zero, nv]⟩, ⟨rfl, .inl ⟨rfl, rfl⟩⟩, Below.refl _ _⟩
              case round =>
                obtain ⟨k, cy, O, A2, c2, rfl, rfl, rfl, HI, ho2, hb2⟩ := hrel
                have HO2 := Lib.hid ho2
                have HB2 := Lib.hid hb2
                have hz2 := hb2.size
                have hk0 : (0 : Int) ≤ (k : Int) := by omega
                have hcy := HI.out.hc
                clear ho2 hb2
                by_cases hin : k < n ∨ 0 < cy
                · have hk5 : k ≤ 5000 := by
                    rcases Nat.lt_or_ge k n with h | h
                    · omega
                    · have := HI.out.hb h; omega
                  have HBt := Lib.hid (show Calls Try.prog 77 #[.slice A1 n c1, .int .i64 (k : Int)] wr (fun e w' => e = .returned (.int .i64 (l.getD k 0 : Nat)) ∧ wr = w') from by
                    have h := rbit_any ((HO.out.sl HDl.out HN.out).below (C := wo.heap.size) HB2.out (Nat.le_refl _)) (k : Int)
                    rwa [bitZ_nat] at h)
                  have hyb := HDl.out.getD (b := 2) (by decide) k
                  have HSt := Lib.hid (fun y t (hy : l.getD k 0 = y) (hy2 : y < 2) (ht : y * r + cy = t) => HI.out.step HN.out hr2 hy hy2 ht hin)
                  obtain ⟨y, hy⟩ : ∃ y, l.getD k 0 = y := ⟨_, rfl⟩
                  rw [hy] at HBt hyb
                  obtain ⟨p, hp⟩ : ∃ p, y * r = p := ⟨_, rfl⟩
                  have hpi : (y : Int) * (r : Int) = (p : Int) := by rw [← hp]; simp
                  have hp36 : p ≤ 36 := by
                    rcases (by omega : y = 0 ∨ y = 1) with e | e <;> rw [← hp, e] <;> omega
                  obtain ⟨t, ht⟩ : ∃ t, p + cy = t := ⟨_, rfl⟩
                  have HS1 := Lib.hid (HSt.out y t hy hyb (by rw [hp]; exact ht))
                  have hti : (p : Int) + (cy : Int) = (t : Int) := by omega
                  have ht9 : (t : Int) ≤ 72 := by omega
                  have htm : (t : Int).tmod 2 = ((t % 2 : Nat) : Int) := by rw [Int.tmod_eq_emod_of_nonneg (by omega)]; omega
                  have htd : (t : Int).tdiv 2 = ((t / 2 : Nat) : Int) := by rw [Int.tdiv_eq_ediv_of_nonneg (by omega)]; omega
                  have hk5I : k ≤ 4294967296 := by omega
                  have hkI5 : (k : Int) ≤ 5000 := by omega
                  have HME := Lib.hid (show (n - (k + 1)) * 100 + t / 2 < (n - k) * 100 + cy by
                    rcases Nat.lt_or_ge k n with h | h
                    · omega
                    · have hy0 : y = 0 := by rw [← hy]; exact getD_past (by rw [HN.out]; exact h)
                      rw [hy0, Nat.zero_mul] at hp
                      omega)
                  clear hy hp ht HSt
                  by_cases hkn : k < n
                  case' pos =>
                    have hkI : (k : Int) < (n : Int) := by omega
                    have hkd : decide (k < n) = true := decide_eq_true hkn
                  case' neg =>
                    have hkI : ¬ (k : Int) < (n : Int) := by omega
                    have hkd : decide (k < n) = false := decide_eq_false hkn
                    have hcyI : (0 : Int) < (cy : Int) := by omega
                    have hcyd : decide (0 < cy) = true := decide_eq_true (by omega)
                  all_goals
                    go_wp2_with (first
                      | (go_at_call 77; (with_reducible refine HBt.out.mono ?_); rintro e w' ⟨rfl, rfl⟩)
                      | (at_builtin; refine wpList_append_i64 (by rfl) _ _ (by rfl) wo.heap.size A2 k c2 O (by rfl) (Own.alloc HO2.out _) wr.heap.size (t % 2) (by rfl) (by simp [go_sem]) hk5I (by simp; omega) ?_; intro A4 c4 w4 ho4 hb4))
                    have HO4 := Lib.hid ho4
                    have HB4 := Lib.hid ((HB2.out.alloc hz2 _).trans hb4)
                    clear ho4 hb4
                    go_wp2_with fail
                    go_roundw
                    case rel => exact ⟨k + 1, t / 2, O ++ [t % 2], A4, c4, by go_num, by first | rfl | go_num, rfl, HS1, HO4.out, HB4.out⟩
                    case measure => first | exact HME.out | (have := HME.out; simp [intOf]; omega)
                · have hkn : n ≤ k := by omega
                  have hcy0 : cy = 0 := by omega
                  subst hcy0
                  have hk9 := HI.out.hb hkn
                  have hv := HI.out.hv
                  rw [Nat.mul_zero, Nat.add_zero, nvp_all (by rw [HN.out]; exact hkn), HVl.out] at hv
                  have et : tr O = digs 2 (V * r + d) := by rw [tr_eq_digs (b := 2) (by decide) HI.out.dO, hv]
                  have em : tlen O = (digs 2 (V * r + d)).length := by rw [← et, tr_length]
                  have hcut := rcut_any (HO2.out.sl HI.out.dO HI.out.lo)
                  rw [em] at hcut
                  have HCut := Lib.hid hcut
                  have hml : tlen O ≤ k := by rw [← HI.out.lo]; exact tlen_le O
                  have htk := HO2.out.take hml
                  rw [i64s_take] at htk
                  have HR2 := Lib.hid (show RpRel W0 (pval r ((sdig s'.data.toList).take (i + 1))) (.slice A2 (digs 2 (V * r + d)).length c2) wr from by
                    rw [HSn.out]
                    exact ⟨A2, c2, rfl, by rw [← em, ← et]; exact Own.mono htk hz1, HB1.out.trans (HB2.out.mono hz1)⟩)
                  have HLe := Lib.hid (show (digs 2 (pval r ((sdig s'.data.toList).take (i + 1)))).length ≤ 8192 by rw [HSn.out, ← em]; omega)
                  have hk1 : decide (k < n) = false := decide_eq_false (by omega)
                  have hk2 : ¬ (k : Int) < (n : Int) := by omega
                  clear hcut htk et em hv hml
                  go_wp2_with (go_at_call 78; (with_reducible refine HCut.out.mono ?_); rintro e w2 ⟨rfl, rfl⟩)
                  go_roundw
                  case rel => exact ⟨i + 1, by omega, by go_num, HLe.out, HR2.out⟩
                  case measure => simp [intOf]; omega
            · have HPR := Lib.hid HS'.out.1
              by_cases hbig : n ≤ 4096
              · obtain rfl : i = s'.size := by omega
                have hVall := HV9.out
                rw [List.take_of_length_le (by rw [sdig_length]; exact Nat.le_refl _), HPR.out] at hVall
                have hVlt := lt_of_digs_length (b := 2) (n := V) (k := 4096) (by decide) (by rw [HN.out]; exact hbig)
                have HC := Lib.hid (pCode_ok hr hr2 HBd.out (by rw [hVall]; exact hVlt))
                have HZ := Lib.hid (show bval true (digs 2 V) = pVal s.data.toList (r : Int) by
                  unfold bval pVal
                  rw [nv_digs (by decide), HS'.out.2, Int.toNat_natCast, hVall])
                have hd6' : decide (s'.size < s'.size) = false := decide_eq_false (by omega)
                have hbigI : ¬ (4096 : Int) < (n : Int) := by omega
                have hbd : decide (4096 < n) = false := decide_eq_false (by omega)
                have HDl := Lib.hid (dig_digs (b := 2) (by decide) V)
                clear hVall hVlt
                generalize pVal s.data.toList (r : Int) = z at *
                generalize digs 2 V = l at *
                go_wp2_with fail
                (with_reducible refine (rlaid_at true HO.out HN.out HDl.out HZ.out).mono ?_)
                rintro ex w5 ⟨rfl, ho5, hb5⟩
                obtain ⟨r0, r1, r2, r3⟩ := two_cells (HB1.out.trans (hb5.mono hz1)) HX.out hW0z
                have HO5 := Lib.hid ho5
                have HB5 := Lib.hid (HB.out.trans ((HB1.out.trans (hb5.mono hz1)).mono HB.out.size))
                clear ho5 hb5
                go_wp2
                have hrr := ResB.stored (w := w) (g := w.heap.size) (u := .bool (decide (z < 0))) (u' := .slice A1 (digs 2 z.natAbs).length c1) ⟨A1, c1, rfl, HO5.out⟩ HB5.out (by omega) (by omega)
                exact bodyPost_ret (v := .tuple #[.agg #[.bool (decide (z < 0)), .slice A1 (digs 2 z.natAbs).length c1], .int .i64 0]) (by simp [results, Try.results28, go_sem, r0, r1]) rfl
                  ⟨_, by rw [HC.out], fun _ => hrr.1, fun h => absurd HC.out h, hrr.2⟩
              · have hVge : ¬ V < 2 ^ 4096 := fun h => hbig (by rw [← HN.out]; exact digs_length_le (by decide) h)
                have HC := Lib.hid (pCode_long hr hr2 HBd.out i (by rw [← HPR.out, HV9.out]; exact hVge))
                have hbigI : (4096 : Int) < (n : Int) := by omega
                have hbd : decide (4096 < n) = true := decide_eq_true (by omega)
                have hbd2 : decide (n ≤ 4096) = false := decide_eq_false (by omega)
                have hbI2 : ¬ (n : Int) ≤ 4096 := by omega
                obtain ⟨r0, r1, r2, r3⟩ := two_cells HB1.out HX.out hW0z
                have HB5 := Lib.hid (HB.out.trans (HB1.out.mono HB.out.size))
                clear hVge
                by_cases his : i < s'.size
                case' pos =>
                  have hisI : (i : Int) < (s'.size : Int) := by omega
                  have hisd : decide (i < s'.size) = true := decide_eq_true his
                case' neg =>
                  have hisI : ¬ (i : Int) < (s'.size : Int) := by omega
                  have hisd : decide (i < s'.size) = false := decide_eq_false his
                all_goals
                  go_wp2
                  exact bodyPost_ret (v := .tuple #[zeroV, .int .i64 10]) (by simp [results, Try.results28, go_sem, r0, r1]) rfl
                    (RpPost.bad HC.out (by decide) ((HB5.out.setCell (Nat.le_refl _) _).setCell (Nat.le_refl _) _))
theorem rParse_any (s : ByteArray) (r : Int) (w : World) (hs : s.size ≤ 1048576) :
    Calls Try.prog 28 #[.string s, .int .i64 r] w (RpPost w (pVal s.data.toList r) (pCode s.data.toList r)) := by
  by_cases h : r < 2 ∨ 36 < r
  · exact rParse_radix s r w h _ _ (by rw [pCode, if_pos h])
  · obtain ⟨n, rfl⟩ := Int.eq_ofNat_of_zero_le (show 0 ≤ r by omega)
    exact rParse_good s n w hs (by omega) (by omega)
end Go.Proofs.Ytggdmhkdmkldoaa
