import Derived.Test.YtggdmhkdmkldoaaCw
import Derived.Test.YtggdmhkdmkldoaaBits
namespace Go.Proofs.Ytggdmhkdmkldoaa
open Go.RowKit Hb

/-- copy's run, in one form -/
theorem copy_run {P : Program} (w : World) (dT sT ty elem : TypeId) (hu : P.underlying dT = some (.slice elem)) (hsz : (P.info? elem).map (·.size) = some 1)
    (dp sp : Option Addr) (dLen dCap sLen sCap : Nat) (g off : Nat) (cur : List Value) (t : TypeId) (hg : w.heap[g]? = some (.cells cur.toArray t (0, 0))) (cs : List Value) (hn : cs.length = Nat.min sLen dLen)
    (hpos : 0 < cs.length → dp = some ⟨g, off, none⟩ ∧ ∃ ad, sp = some ad ∧ ∀ j v, cs[j]? = some v → w.cell? (ad.add j) = some v)
    (hfit : off + cs.length ≤ cur.length) (h1 : ∀ v ∈ cs, v.oneCell' = true) (B : Nat) (w0 : World) (hb : Below B w0 w) (hBg : B ≤ g) :
    ∃ w1, (Builtin.copy_ #[dT, sT] ty #[.slice dp dLen dCap, .slice sp sLen sCap]).run P w = .ok (goInt cs.length) w1 ∧ Hid (w1.heap[g]? = some (.cells (splice cur off cs).toArray t (0, 0))) ∧ Below B w0 w1 := by
  by_cases h0 : cs.length = 0
  · obtain rfl : cs = [] := List.eq_nil_of_length_eq_zero h0
    refine ⟨w, ?_, show _ = _ by simpa [splice] using hg, hb⟩
    have hrun := run_copy_none (P := P) w dT sT ty elem dp sp dLen dCap sLen sCap hu hsz (by simpa using hn.symm)
    simpa using hrun
  · obtain ⟨rfl, ad, rfl, hsrc⟩ := hpos (by omega)
    have hrun := run_copy_row (P := P) w dT sT ty elem g off dLen dCap ad sLen sCap cur.toArray t cs hu hsz hg hn hsrc (by simpa using hfit) h1
    exact ⟨_, hrun, show _ = _ by simpa [splice] using setRow_heap w g _ _ t _ hg, below_setRow hb hBg _⟩
/-! ### twos: a two's complement in so many limbs -/
theorem neg_step {P a b c x t : Nat} (h : a + b + P * c = P) (hx : x ≤ 4294967295) (ht : t = 4294967295 - x + c) :
    (a + P * (t % 4294967296)) + (b + P * x) + P * 4294967296 * (t / 4294967296) = P * 4294967296 := by
  have h1 : P * (t % 4294967296) + P * 4294967296 * (t / 4294967296) = P * t := by
    rw [Nat.mul_assoc, ← Nat.mul_add, Nat.mod_add_div]
  have h2 : P * t + P * x = P * 4294967295 + P * c := by
    rw [← Nat.mul_add, ← Nat.mul_add]
    congr 1; omega
  omega
def NegRel (w : World) (B g : Nat) (m : List Nat) (n k : Nat) (cv : Value) (wr : World) : Prop :=
  ∃ (o : List Nat) (c : Nat), cv = .int .u32 (c : Int) ∧ c ≤ 1 ∧ o.length = k ∧ Dig W o ∧ nv W o + nvp W m k + W ^ k * c = W ^ k ∧
    OwnU wr B (some ⟨g, 0, none⟩) n n (u32s (o ++ m.drop k)) ∧ Below B w wr
section
variable {w wr : World} {B g n k : Nat} {m : List Nat} {cv : Value}
theorem NegRel.start (ho : OwnU wr B (some ⟨g, 0, none⟩) n n (u32s m)) (hb : Below B w wr) : NegRel w B g m n 0 (.int .u32 1) wr :=
  ⟨[], 1, rfl, Nat.le_refl _, rfl, Dig.nil _, by simp [nv, nvp_zero], ho, hb⟩
theorem NegRel.facts (h : NegRel w B g m n k cv wr) (hk : k < n) (hm : m.length = n) (hd : Dig W m) :
    ∃ c : Nat, cv = .int .u32 (c : Int) ∧ c ≤ 1 ∧ wr.cell? ⟨g, k, none⟩ = some (.int .u32 (m.getD k 0 : Nat)) ∧ wr.frozen? ⟨g, k, none⟩ = false ∧ m.getD k 0 < 4294967296 ∧
      Below B w wr ∧ B ≤ g ∧ Hid (NegRel w B g m n (k + 1) (.int .u32 (((4294967295 - m.getD k 0 + 0 + c) / 4294967296 : Nat) : Int)) (wr.setCell ⟨g, k, none⟩ (.int .u32 (((4294967295 - m.getD k 0 + 0 + c) % 4294967296 : Nat) : Int)))) := by
  obtain ⟨o, c, rfl, hc1, hlen, hod, hv, ho, hb⟩ := h
  have h1 := ho.cell (j := k) hk
  have hx : m.getD k 0 < 4294967296 := hd.getD (by decide) k
  have hdr : m.drop k = m.getD k 0 :: m.drop (k + 1) := by
    rw [List.drop_eq_getElem_cons (by omega), getD_eq (by omega)]
  have hget : (o ++ m.drop k).getD k 0 = m.getD k 0 := by
    rw [hdr, List.getD_eq_getElem?_getD, List.getElem?_append_right (by omega), hlen]; simp
  rw [u32s_get (by rw [List.length_append, List.length_drop]; omega), hget] at h1
  have hBg : B ≤ g := by
    rcases ho.form with ⟨e, _⟩ | ⟨g', e, h2, _⟩
    · cases e
    · injection e with e; injection e with e; omega
  refine ⟨c, rfl, hc1, h1, ho.frozen k, hx, hb, hBg, Lib.hid ⟨o ++ [(4294967295 - m.getD k 0 + 0 + c) % 4294967296], (4294967295 - m.getD k 0 + 0 + c) / 4294967296, rfl, by omega, by simp [hlen], hod.append (Dig.cons (Nat.mod_lt _ (by decide)) (Dig.nil _)), ?_, ?_, hb.setCell hBg _⟩⟩
  · rw [nv_snoc, nvp_succ, hlen, Nat.pow_succ]
    exact neg_step hv (by omega) (by omega)
  · have h2 := ho.set_ k (.int .u32 (((4294967295 - m.getD k 0 + 0 + c) % 4294967296 : Nat) : Int))
    generalize (4294967295 - m.getD k 0 + 0 + c) % 4294967296 = t at *
    rw [u32s_set, hdr, List.set_append_right _ _ (by omega), hlen, Nat.sub_self, List.set_cons_zero] at h2
    have e : o ++ [t] ++ m.drop (k + 1) = o ++ t :: m.drop (k + 1) := by simp
    rw [e]; exact h2
/-- a slice of n limbs of the call's own, of this value -/
def TwP (w : World) (v n : Nat) (e : Ending) (w' : World) : Prop :=
  ∃ g o, e = .returned (.slice (some ⟨g, 0, none⟩) n n) ∧ OwnU w' w.heap.size (some ⟨g, 0, none⟩) n n (u32s o) ∧ o.length = n ∧ Dig W o ∧ nv W o = v ∧ Below w.heap.size w w'
theorem NegRel.end_ (h : NegRel w B g m n n cv wr) (hm : m.length = n) (h0 : 0 < nv W m) : ∃ o : List Nat, OwnU wr B (some ⟨g, 0, none⟩) n n (u32s o) ∧ o.length = n ∧ Dig W o ∧ nv W o = W ^ n - nv W m ∧ Below B w wr := by
  obtain ⟨o, c, rfl, hc1, hlen, hod, hv, ho, hb⟩ := h
  rw [List.drop_eq_nil_of_le (by omega), List.append_nil] at ho
  rw [nvp_all (by omega)] at hv
  have hc : c = 0 := by
    rcases Nat.eq_zero_or_pos c with h | h
    · exact h
    · obtain rfl : c = 1 := by omega
      rw [Nat.mul_one] at hv; omega
  subst hc
  exact ⟨o, ho, hlen, hod, by omega, hb⟩
end
theorem add0_any (x c : Nat) (w : World) (hx : x < 4294967296) (hc : c ≤ 1) :
    Calls Try.prog 106 #[.int .u32 (x : Int), .int .u32 0, .int .u32 (c : Int)] w fun e w' => e = .returned (.tuple #[.int .u32 ((x + 0 + c) % 4294967296 : Nat), .int .u32 ((x + 0 + c) / 4294967296 : Nat)]) ∧ w = w' :=
  add32_any x 0 c w hx (by decide) hc
theorem cpl_u32 (x : Nat) (hx : x < 4294967296) : bits .xor .u32 IntKind.u32.max (x : Int) = ((4294967295 - x : Nat) : Int) := by
  have h1 := bits_u32 .xor IntKind.u32.max (x : Int) (.inr (.inr rfl))
  have h2 := bv_bits_xor IntKind.u32.max (x : Int)
  have h3 := congrArg BitVec.toNat h2
  rw [u32_bv _ h1.1 h1.2] at h3
  have h4 : (BitVec.ofInt 32 IntKind.u32.max ^^^ BitVec.ofInt 32 (x : Int)) = ~~~ BitVec.ofInt 32 (x : Int) := by
    rw [show BitVec.ofInt 32 IntKind.u32.max = BitVec.allOnes 32 from by decide, BitVec.allOnes_xor]
  rw [h4, BitVec.toNat_not, u32_bv _ (by omega) (by omega)] at h3
  have h5 := h1.1
  omega

set_option maxRecDepth 100000 in
set_option maxHeartbeats 1000000 in
theorem twos_any (neg : Bool) {B : Nat} {A : Option Addr} {l : List Nat} {n c k : Nat} {w : World} (hs : SlU w B A n c l) (hB : B ≤ w.heap.size) (hk : tlen l ≤ k) (hk2 : k ≤ 67108864) :
    Calls Try.prog 105 #[.agg #[.bool neg, .slice A n c], .int .i64 (k : Int)] w (TwP w (if ival neg l < 0 then W ^ k - nv W l else nv W l) k) := by
  obtain ⟨v, hv⟩ : ∃ v, (if ival neg l < 0 then W ^ k - nv W l else nv W l) = v := ⟨_, rfl⟩
  rw [hv]
  have hmk := makeU k (by omega)
  obtain ⟨s, hsg⟩ : ∃ s, (ival neg l).sign = s := ⟨_, rfl⟩
  have HSg : Hid (∀ w1, Below w.heap.size w w1 → Calls Try.prog 42 #[.agg #[.bool neg, .slice A n c]] w1 (CmpZPost s w1)) := Lib.hid (fun w1 hb => by rw [← hsg]; exact sign_any neg (hs.below (C := w.heap.size) hb hB) (Nat.le_trans hB hb.size))
  have HI := Lib.hid (fun w1 (hb : Below w.heap.size w w1) => trim_any (hs.below (C := w.heap.size) hb hB))
  have HR := Lib.hid (fun w1 (hb : Below w.heap.size w w1) => ((hs.tr).below (C := w.heap.size) hb hB).rd)
  have htl := tr_length l
  have hlen : (madeCells #[Value.int .u32 0] k).toList.length = k := by simp [size_madeCells]
  have HC := Lib.hid (show (u32s (tr l)).length = Nat.min (tlen l) k by rw [u32s_length, htl]; exact (Nat.min_eq_left hk).symm)
  have HF := Lib.hid (show 0 + (u32s (tr l)).length ≤ (madeCells #[Value.int .u32 0] k).toList.length by rw [hlen, u32s_length, htl]; omega)
  have HE := Lib.hid (show splice (madeCells #[Value.int .u32 0] k).toList 0 (u32s (tr l)) = u32s (tr l ++ List.replicate (k - tlen l) 0) by
    rw [u32s_zeros]
    simp only [splice, List.take_zero, List.nil_append, Nat.zero_add]
    rw [u32s_drop, List.drop_replicate, u32s_append, u32s_length, htl])
  have HV := Lib.hid (show nv W (tr l ++ List.replicate (k - tlen l) 0) = nv W l by rw [nv_zeros, nv_tr])
  have HD := Lib.hid (show Dig W (tr l ++ List.replicate (k - tlen l) 0) from hs.dig.tr.append (Dig.replicate _ _ (by decide)))
  have HL := Lib.hid (show (tr l ++ List.replicate (k - tlen l) 0).length = k by rw [List.length_append, List.length_replicate, htl]; omega)
  have HP := Lib.hid (show ∀ (w1 : World) (g : Nat), Below w.heap.size w w1 → 0 < (u32s (tr l)).length → some (⟨g, 0, none⟩ : Addr) = some ⟨g, 0, none⟩ ∧ ∃ ad, A = some ad ∧ ∀ j v, (u32s (tr l))[j]? = some v → w1.cell? (ad.add j) = some v from fun w1 g hb h => by
    obtain ⟨b, o, rfl, hb2, hc⟩ := HR.out w1 hb (List.length_pos_iff.1 h)
    exact ⟨rfl, _, rfl, fun j v hj => by rw [addr_add]; exact hc j v hj⟩)
  have HN := Lib.hid (show s < 0 → 0 < nv W l from fun h => by
    have : ival neg l ≠ 0 := fun e => by rw [← hsg, e] at h; exact absurd h (by decide)
    have h2 := ival_natAbs neg l
    omega)
  have HZ := Lib.hid (show (s < 0 → v = W ^ k - nv W l) ∧ (¬ s < 0 → v = nv W l) from by
    have : (ival neg l < 0) ↔ s < 0 := by rw [← hsg]; exact (Int.sign_neg_iff).symm
    rw [← hv]
    exact ⟨fun h => if_pos (this.2 h), fun h => if_neg (fun h2 => h (this.1 h2))⟩)
  have HK := Lib.hid (show k ≤ maxLen by unfold maxLen; omega)
  have hk9 : k ≤ 1000000000 := by omega
  have B1 := Lib.hid ((Below.refl w.heap.size w).alloc (Nat.le_refl _) (.cells #[.bool neg, .slice A n c] 24))
  have B2 := Lib.hid (B1.out.alloc (by simp) (.cells (madeCells #[.int .u32 0] k) 48))
  have X1 := Lib.hid (Bx.new w (.bool neg) (.slice A n c))
  have hbk := madeU_block (w.alloc (.cells #[.bool neg, .slice A n c] 24)) k
  rw [World.size_alloc] at hbk
  have HBK := Lib.hid hbk
  have B3 := Lib.hid (show Below (w.heap.size + 1) (w.alloc (.cells #[.bool neg, .slice A n c] 24)) ((w.alloc (.cells #[.bool neg, .slice A n c] 24)).alloc (.cells (madeCells #[.int .u32 0] k) 48)) from (Below.refl _ _).alloc (by simp) _)
  obtain ⟨w1, hrun, hb1, hbel⟩ := copy_run _ 22 22 3 48 Try.underlying22 sizeU (some ⟨w.heap.size + 1, 0, none⟩) A k k (tlen l) c (w.heap.size + 1) 0 (madeCells #[.int .u32 0] k).toList 48 HBK.out (u32s (tr l)) HC.out (HP.out _ _ B2.out) HF.out (u32s_one (tr l)) (w.heap.size + 1) (w.alloc (.cells #[.bool neg, .slice A n c] 24)) B3.out (Nat.le_refl _)
  rw [HE.out] at hb1
  have HHB := Lib.hid hbel
  generalize tr l ++ List.replicate (k - tlen l) 0 = m at *
  generalize tlen l = tl at *
  have ho := Own.of_block (B := w.heap.size) hb1.out (by omega) (by rw [u32s_length, HL.out]; exact HK.out)
  rw [u32s_length, HL.out] at ho
  have HO := Lib.hid ho
  have X2 := Lib.hid (X1.out.below hbel (by omega))
  have K1 := Lib.hid (B1.out.trans (hbel.mono (by omega)))
  have hz1 := hbel.size
  simp at hz1
  clear hb1 hbel ho X1 B1 B3 HBK HC HP HF HE HHB
  clear hs hB hk hk2 hsg htl hlen hv hbk
  obtain ⟨a0, a1, _, _⟩ := X2.out.facts
  go_enter Try.func105, Try.ntmps105
  go_wp2_with (go_at_call 80; refine (HI.out _ B2.out).mono ?_; rintro ex w' ⟨rfl, rfl⟩)
  refine (HSg.out _ K1.out).mono ?_
  rintro ex w2 ⟨rfl, hb2⟩
  replace HO := Lib.hid (HO.out.below hb2 (Nat.le_refl _))
  replace K1 := Lib.hid (K1.out.trans (hb2.mono K1.out.size))
  clear hb2 a0 a1
  by_cases hsn : s < 0
  · have ds : decide (s < 0) = true := decide_eq_true hsn
    have HS0 := Lib.hid (NegRel.start (w := w) (n := k) HO.out K1.out)
    have H0 := Lib.hid (show 0 < nv W m by rw [HV.out]; exact HN.out hsn)
    have HF2 := Lib.hid (show v = W ^ k - nv W m by rw [HV.out]; exact HZ.out.1 (by omega))
    clear hsn HO K1 HN HZ
    go_wp2_with fail
    go_loopw [6, 20] (fun cv i wr => ∃ j : Nat, j ≤ k ∧ i = .int .i64 j ∧ NegRel w w.heap.size (w.heap.size + 1) m k j cv wr) (fun _ i _ => k - (intOf i).toNat)
    case atStart => exact ⟨0, Nat.zero_le _, rfl, HS0.out⟩
    case round =>
      obtain ⟨j, hj, rfl, hrel⟩ := hrel
      have HR := Lib.hid hrel
      by_cases hjk : j < k
      · obtain ⟨cc, rfl, hcc, hx, hfz, hxb, hbel, _, hst⟩ := hrel.facts hjk HL.out HD.out
        have hj0 : (0 : Int) ≤ (j : Int) := by omega
        have hji : (j : Int) < (k : Int) := by omega
        have hcx := cpl_u32 (m.getD j 0) hxb
        have HA := Lib.hid (fun w1 => add0_any (4294967295 - m.getD j 0) cc w1 (by omega) hcc)
        generalize m.getD j 0 = x at *
        clear HS0 hbel
        go_wp2_with fail
        with_reducible refine (HA.out _).mono ?_
        rintro e w' ⟨rfl, rfl⟩
        go_wp2_with fail
        go_roundw
        case rel => exact ⟨j + 1, by omega, by go_num, hst.out⟩
        case measure => simp [intOf]; omega
      · obtain rfl : j = k := by omega
        have HEND := Lib.hid (NegRel.end_ HR.out HL.out H0.out)
        clear hrel HS0 HR
        go_wp2
        go_ret
        obtain ⟨o, h1, h2, h3, h4, h5⟩ := HEND.out
        exact ⟨_, o, rfl, h1, h2, h3, by rw [h4, HF2.out], h5⟩
  · have ds : decide (s < 0) = false := decide_eq_false hsn
    have HF2 := Lib.hid (show nv W m = v by rw [HV.out]; exact (HZ.out.2 (by omega)).symm)
    clear hsn HN HZ
    go_wp2
    go_ret
    exact ⟨_, m, rfl, HO.out, HL.out, HD.out, HF2.out, K1.out⟩
end Go.Proofs.Ytggdmhkdmkldoaa
