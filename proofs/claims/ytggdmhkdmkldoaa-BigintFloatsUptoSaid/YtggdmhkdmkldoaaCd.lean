import Derived.Test.YtggdmhkdmkldoaaCc
namespace Go.Proofs.Ytggdmhkdmkldoaa
open Go.RowKit Hb

def pNeg (bs : List UInt8) : Bool := bs.head? == some 45
def pRest (bs : List UInt8) : List UInt8 := if pNeg bs then bs.tail else bs
def pBad (bs : List UInt8) (r : Int) : Bool := (pRest bs).isEmpty || (pRest bs).any fun c => decide (r ≤ (dval c.toNat : Int))
def pVal (bs : List UInt8) (r : Int) : Int := if pNeg bs then -(pval r.toNat (sdig (pRest bs)) : Int) else (pval r.toNat (sdig (pRest bs)) : Int)
def pCode (bs : List UInt8) (r : Int) : Int := if r < 2 ∨ 36 < r then 13 else if pBad bs r then 12 else err (tooLong (pVal bs r))

set_option maxRecDepth 100000 in
set_option maxHeartbeats 1000000 in
theorem Parse_radix (s : ByteArray) (r : Int) (w : World) (hr : r < 2 ∨ 36 < r) (z : Int) (co : Int) (hco : co = 13) :
    Calls Try.prog 27 #[.string s, .int .i64 r] w (PostC w z co) := by
  have HB := Lib.hid (Below.refl w.heap.size w)
  have HC := Lib.hid hco
  clear hco
  by_cases h : r < 2
  · have d1 : decide (r < 2) = true := decide_eq_true h
    clear hr
    go_enter Try.func27, Try.ntmps27
    go_wp2
    exact bodyPost_ret (v := .tuple #[zeroV, .int .i64 13]) (by simp [results, Try.results27, go_sem]) rfl
      (PostC.bad HC.out (by decide) (HB.out.alloc (Nat.le_refl _) _))
  · have d1 : decide (r < 2) = false := decide_eq_false h
    have d2 : decide (36 < r) = true := decide_eq_true (by omega)
    clear hr
    go_enter Try.func27, Try.ntmps27
    go_wp2
    exact bodyPost_ret (v := .tuple #[zeroV, .int .i64 13]) (by simp [results, Try.results27, go_sem]) rfl
      (PostC.bad HC.out (by decide) (HB.out.alloc (Nat.le_refl _) _))

theorem str_empty {s : ByteArray} (h : s.size = 0) : s.toList.isEmpty = true := by
  rw [ByteArray.toList_eq]
  have : s.data.toList.length = 0 := by simpa using h
  rw [List.length_eq_zero_iff.1 this]; rfl
theorem str_full {s : ByteArray} (h : s.size ≠ 0) : s.toList.isEmpty = false := by
  rw [ByteArray.toList_eq]
  cases hl : s.data.toList with
  | nil => exact absurd (by have := congrArg List.length hl; simpa using this) h
  | cons a l => rfl
theorem sdig_length (s : ByteArray) : (sdig s.data.toList).length = s.size := by simp [sdig]
theorem sdig_get (s : ByteArray) {k : Nat} (h : k < s.size) : (sdig s.data.toList).getD k 0 = dval s[k].toNat := by
  rw [getD_eq (by rw [sdig_length]; exact h)]
  simp only [sdig, List.getElem_map]
  rfl
theorem pBad_empty {bs : List UInt8} {r : Int} {s : ByteArray} (h : s.data.toList = pRest bs) (h0 : s.size = 0) : pBad bs r = true := by
  have : s.data.toList = [] := List.length_eq_zero_iff.1 (by simpa using h0)
  simp [pBad, ← h, this]
theorem pBad_at {bs : List UInt8} {r : Nat} {s : ByteArray} (h : s.data.toList = pRest bs) {k : Nat} (hk : k < s.size) (hd : r ≤ dval s[k].toNat) : pBad bs r = true := by
  simp only [pBad, ← h, Bool.or_eq_true, List.any_eq_true]
  right
  refine ⟨s[k], ?_, by simpa using hd⟩
  show s.data[k] ∈ _
  simp
theorem pBad_none {bs : List UInt8} {r : Nat} {s : ByteArray} (h : s.data.toList = pRest bs) (h0 : s.size ≠ 0) (hd : ∀ j, j < s.size → (sdig s.data.toList).getD j 0 < r) : pBad bs r = false := by
  have hne := str_full h0
  rw [ByteArray.toList_eq] at hne
  rw [pBad, ← h, hne, Bool.false_or, List.any_eq_false]
  intro c hc
  obtain ⟨j, hj, rfl⟩ := List.getElem_of_mem hc
  have hj2 : j < s.size := by simpa using hj
  have h3 := hd j hj2
  rw [sdig_get s hj2] at h3
  have : s.data.toList[j] = s[j] := by simp; rfl
  rw [this]
  simp; omega
theorem pCode_bad {bs : List UInt8} {r : Nat} (h1 : 2 ≤ r) (h2 : r ≤ 36) (h : pBad bs r = true) : pCode bs r = 12 := by
  rw [pCode, if_neg (by omega), h]; rfl
theorem pVal_natAbs (bs : List UInt8) (r : Nat) : (pVal bs r).natAbs = pval r (sdig (pRest bs)) := by
  unfold pVal; split <;> simp
theorem pCode_err {bs : List UInt8} {r : Nat} (h1 : 2 ≤ r) (h2 : r ≤ 36) (h : pBad bs r = false) : pCode bs r = err (tooLong (pVal bs r)) := by
  rw [pCode, if_neg (by omega), h]; rfl
theorem tooLong_iff {z : Int} : tooLong z = decide (¬ z.natAbs < 2 ^ 4096) := by
  rw [tooLong]
  refine decide_eq_decide.2 ⟨fun h h2 => ?_, fun h => ?_⟩
  · have := blen_le_iff.2 h2; omega
  · rcases Nat.lt_or_ge 4096 (blen z.natAbs) with h2 | h2
    · exact h2
    · exact absurd (blen_le_iff.1 h2) h
theorem pCode_long {bs : List UInt8} {r : Nat} (h1 : 2 ≤ r) (h2 : r ≤ 36) (h : pBad bs r = false) (k : Nat) (hl : ¬ pval r ((sdig (pRest bs)).take k) < 2 ^ 4096) : pCode bs r = 10 := by
  rw [pCode_err h1 h2 h, tooLong_iff, pVal_natAbs]
  have := pval_take_le (r := r) (by omega) (sdig (pRest bs)) k
  have h3 : ¬ pval r (sdig (pRest bs)) < 2 ^ 4096 := fun h => hl (Nat.lt_of_le_of_lt this h)
  rw [decide_eq_true h3]; rfl
theorem pCode_ok {bs : List UInt8} {r : Nat} (h1 : 2 ≤ r) (h2 : r ≤ 36) (h : pBad bs r = false) (hl : pval r (sdig (pRest bs)) < 2 ^ 4096) : pCode bs r = 0 := by
  rw [pCode_err h1 h2 h, tooLong_iff, pVal_natAbs, decide_eq_false (Classical.not_not.2 hl)]; rfl

theorem pNeg_cases (s : ByteArray) : (s.size = 0 ∧ pNeg s.data.toList = false) ∨ (∃ h : 0 < s.size, s[0].toNat ≠ 45 ∧ pNeg s.data.toList = false) ∨ (∃ h : 0 < s.size, s[0].toNat = 45 ∧ pNeg s.data.toList = true ∧ (s.extract 1 s.size).data.toList = s.data.toList.tail ∧ (s.extract 1 s.size).size = s.size - 1) := by
  rcases Nat.eq_zero_or_pos s.size with h | h
  · left
    have : s.data.toList = [] := List.length_eq_zero_iff.1 (by simpa using h)
    exact ⟨h, by rw [this]; rfl⟩
  · right
    have e : s.data.toList = s[0] :: s.data.toList.tail := by
      have h2 : 0 < s.data.toList.length := by simpa using h
      have h3 : s[0] = s.data.toList[0] := by simp; rfl
      rw [h3]
      exact (List.cons_head_tail (by intro e; rw [e] at h2; simp at h2)).symm.trans (by rw [List.head_eq_getElem])
    have e2 : pNeg s.data.toList = decide (s[0].toNat = 45) := by
      rw [e, pNeg, List.head?_cons]
      by_cases h4 : s[0].toNat = 45
      · have h5 : s[0] = 45 := UInt8.toNat_inj.1 h4
        rw [decide_eq_true h4, h5]; rfl
      · rw [decide_eq_false h4]
        rw [beq_eq_false_iff_ne]
        intro h5
        injection h5 with h5
        exact h4 (by rw [h5]; rfl)
    by_cases h4 : s[0].toNat = 45
    · right
      refine ⟨h, h4, by rw [e2]; exact decide_eq_true h4, ?_, ?_⟩
      · rw [ByteArray.data_extract]
        simp [List.drop_one]
        exact List.take_of_length_le (by simp)
      · simp
    · left
      exact ⟨h, h4, by rw [e2]; exact decide_eq_false h4⟩
theorem PRel.start (w : World) (r : Nat) (ds : List Nat) : PRel (w.alloc (.cells #[.bool false, .slice none 0 0] 24)) r ds 0 (.slice none 0 0) (w.alloc (.cells #[.bool false, .slice none 0 0] 24)) :=
  ⟨none, 0, 0, [], rfl, ⟨rfl, .inl ⟨rfl, rfl⟩⟩, rfl, by omega, Dig.nil _, Nrm.nil, rfl, M_pos, Below.refl _ _⟩
theorem wpList_append_u32 {ops : Array Oper} {rest : List Oper} {o : Oper} {a : Act} {Q : Exit → Act → World → Prop} {w : World} (hgd : o.guard = none) (s x : Operand)
    (ho : o.op = .call { callee := .builtin .append, args := #[s, x], argTypes := #[22, 22] })
    (base : Nat) (A : Option Addr) (n cp : Nat) (l : List Nat) (hs : a.eval s = .slice A n cp) (hown : OwnU w base A n cp (u32s l))
    (g : Nat) (y : Nat) (hx : a.eval x = .slice (some ⟨g, 0, none⟩) 1 1) (hc : w.cell? ⟨g, 0, none⟩ = some (.int .u32 (y : Int))) (hn : n ≤ 67108864) (hbase : base ≤ w.heap.size)
    (h : ∀ A' c' w', OwnU w' base A' (n + 1) c' (u32s (l ++ [y])) → Below base w w' → wpList Try.prog ops Q rest (a.put o.dst (.slice A' (n + 1) c')) w') : wpList Try.prog ops Q (o :: rest) a w := by
  obtain ⟨i0, hi, hz0, hz1, hz2⟩ := info_parts infoU
  refine wpList_append_own _ hgd s x 22 ho base 48 i0 (.int .u32 0) 1 4 Try.underlying22 hi hz0 hz1 hz2 rfl (by decide) _ n (u32s l) hs hown ⟨g, 0, none⟩ 1 1 [.int .u32 (y : Int)] hx rfl ?_ ?_ (by simp [maxLen]; omega) (by omega) hbase ?_
  · intro j u hj
    cases j with
    | zero => simp at hj; subst hj; exact hc
    | succ j => simp at hj
  · intro u hu; simp at hu; subst hu; rfl
  · intro v' w' hown' hg _
    have hf : ∃ A' c', v' = .slice A' (n + 1) c' := by
      rcases hown'.2 with ⟨h1, h2⟩ | ⟨g', cap, cur, h1, _⟩
      · exact absurd h2 (by simp)
      · exact ⟨_, _, h1⟩
    obtain ⟨A', c', rfl⟩ := hf
    refine h A' c' w' (by have h3 := hown'; rw [show u32s l ++ [Value.int .u32 (y : Int)] = u32s (l ++ [y]) by simp [u32s]] at h3; exact h3) ⟨hg.os, hg.tape, hg.output, hg.size, fun j hj => hg.block j (by omega) ?_⟩
    rcases Own.form hown with ⟨rfl, _⟩ | ⟨g', rfl, h4, _⟩
    · simp [Value.ownBlock]
    · simp [Value.ownBlock]; omega
set_option maxRecDepth 100000 in
set_option maxHeartbeats 2000000 in
theorem Parse_good (s : ByteArray) (r : Nat) (w : World) (hs : s.size ≤ maxLen) (hr : 2 ≤ r) (hr2 : r ≤ 36) :
    Calls Try.prog 27 #[.string s, .int .i64 (r : Int)] w (PostC w (pVal s.data.toList r) (pCode s.data.toList r)) := by
  have HB := Lib.hid (Below.refl w.heap.size w)
  have d1 : decide ((r : Int) < 2) = false := decide_eq_false (by omega)
  have d2 : decide ((36 : Int) < (r : Int)) = false := decide_eq_false (by omega)
  unfold maxLen at hs
  have HP : (s.size = 0 ∧ pNeg s.data.toList = false) ∨ (∃ h : 0 < s.size, s[0].toNat ≠ 45 ∧ pNeg s.data.toList = false) ∨ (∃ h : 0 < s.size, s[0].toNat = 45 ∧ pNeg s.data.toList = true ∧ (s.extract 1 s.size).data.toList = s.data.toList.tail ∧ (s.extract 1 s.size).size = s.size - 1) := pNeg_cases s
  rcases HP with ⟨h1, hng⟩ | ⟨h1, hb, hng⟩ | ⟨h1, hb, hng, hs2, hsz2⟩
  · obtain ⟨s', hs'⟩ : ∃ s' : ByteArray, s' = s := ⟨_, rfl⟩
    have HS' := Lib.hid (And.intro (show s'.data.toList = pRest s.data.toList by rw [hs', pRest, hng]; rfl) hng)
    have d5 : decide ((0 : Int) < (s'.size : Int)) = false := decide_eq_false (by rw [hs']; omega)
    have d6 : decide (0 < s'.size) = false := decide_eq_false (by rw [hs']; omega)
    have hm : s'.size ≤ 9223372036854775807 := by rw [hs']; omega
    rw [show (Value.string s) = .string s' by rw [hs']]
    clear hng h1 hs'
    go_enter Try.func27, Try.ntmps27
    go_wp2_with fail
    clear d1 d2 d5 d6 hs
    go_loop [33] (fun i => ∃ k : Nat, k ≤ s'.size ∧ i = .int .i64 k ∧ Hid (∀ j, j < k → (sdig s'.data.toList).getD j 0 < r)) (fun i => s'.size - (intOf i).toNat)
    case atStart => exact ⟨0, Nat.zero_le _, rfl, fun j hj => absurd hj (Nat.not_lt_zero _)⟩
    case round =>
      obtain ⟨k, hk, rfl, hdj⟩ := hrel
      by_cases hks : k < s'.size
      · have hk0 : (0 : Int) ≤ (k : Int) := by omega
        have hk1 : (k : Int) < (s'.size : Int) := by omega
        have HV := Lib.hid (fun w1 => value_any s'[k].toNat w1 (UInt8.toNat_lt _))
        have HG := Lib.hid (sdig_get s' hks)
        have H12 := Lib.hid (fun h => pBad_at (r := r) HS'.out.1 hks h)
        generalize hdv : dval s'[k].toNat = dv at *
        by_cases hlt : dv < r
        · have d3 : decide ((r : Int) ≤ (dv : Int)) = false := decide_eq_false (by omega)
          have d4 : decide (r ≤ dv) = false := decide_eq_false (by omega)
          clear hdv
          go_wp2_with (go_at_call 74; (with_reducible refine (HV.out _).mono ?_); rintro e w' ⟨rfl, rfl⟩)
          go_round
          case rel => exact ⟨k + 1, by omega, by go_num, fun j hj => by
            rcases Nat.lt_or_ge j k with h | h
            · exact hdj.out j h
            · obtain rfl : j = k := by omega
              rw [HG.out]; exact hlt⟩
          case measure => simp [intOf]; omega
        · have d3 : decide ((r : Int) ≤ (dv : Int)) = true := decide_eq_true (by omega)
          have d4 : decide (r ≤ dv) = true := decide_eq_true (by omega)
          have HC := Lib.hid (pCode_bad hr hr2 (H12.out (by omega)))
          clear hdv
          go_wp2_with (go_at_call 74; (with_reducible refine (HV.out _).mono ?_); rintro e w' ⟨rfl, rfl⟩)
          exact bodyPost_ret (v := .tuple #[zeroV, .int .i64 12]) (by simp [results, Try.results27, go_sem]) rfl
            (PostC.bad HC.out (by decide) (HB.out.alloc (Nat.le_refl _) _))
      · obtain rfl : k = s'.size := by omega
        by_cases he : s'.size = 0
        · have e1 := str_empty he
          have HC := Lib.hid (pCode_bad hr hr2 (pBad_empty (r := r) HS'.out.1 he))
          go_wp2
          exact bodyPost_ret (v := .tuple #[zeroV, .int .i64 12]) (by simp [results, Try.results27, go_sem]) rfl
            (PostC.bad HC.out (by decide) (HB.out.alloc (Nat.le_refl _) _))
        · have e1 := str_full he
          have HBd := Lib.hid (pBad_none HS'.out.1 he hdj.out)
          go_wp2_with fail
          have hN := Lib.hid (PRel.start w r (sdig s'.data.toList))
          have HWB := Lib.hid (Bx.new w (.bool false) (.slice none 0 0))
          generalize hW0 : w.alloc (.cells #[.bool false, .slice none 0 0] 24) = W0 at *
          have hW0z : W0.heap.size = w.heap.size + 1 := by rw [← hW0]; simp
          have HW0 := Lib.hid (show Below w.heap.size w W0 by rw [← hW0]; exact HB.out.alloc (Nat.le_refl _) _)
          have HWZ := Lib.hid hW0z
          clear hW0 hW0z
          go_loopw [8, 49] (fun lv i wr => ∃ k : Nat, k ≤ s'.size ∧ i = .int .i64 k ∧ PRel W0 r (sdig s'.data.toList) k lv wr) (fun _ i _ => s'.size - (intOf i).toNat)
          case atStart => exact ⟨0, Nat.zero_le _, rfl, hN.out⟩
          case round =>
            obtain ⟨k, hk, rfl, hrel⟩ := hrel
            have hWb : Below W0.heap.size W0 wr := by obtain ⟨_, _, _, _, _, _, _, _, _, _, _, _, h⟩ := hrel; exact h
            obtain ⟨r0, r1, r2, r3⟩ := (HWB.out.below hWb (by rw [HWZ.out]; omega)).facts
            have HWr := Lib.hid hWb
            clear hWb
            obtain ⟨A, n, c, l, rfl, ho, hln, hn128, hdl, hnl, hv, hlt, _⟩ := hrel
            by_cases hks : k < s'.size
            · have hk0 : (0 : Int) ≤ (k : Int) := by omega
              have hk1 : (k : Int) < (s'.size : Int) := by omega
              have HV := Lib.hid (fun w1 => value_any s'[k].toNat w1 (UInt8.toNat_lt _))
              have hdg := sdig_get s' hks
              have hdr := hdj.out k hks
              rw [hdg] at hdr
              generalize hdv : dval s'[k].toNat = dv at *
              have hdv9 : dv < 4294967296 := by omega
              have HIn := Lib.hid (PIn.start (r := r) (d := dv) ho hln hdl HWr.out hdv9)
              have HSt := Lib.hid (fun o (cy : Nat) wr (h1 : o.length = n) (h2 : Dig W o) (h3 : nv W o + W ^ n * 0 = nv W l * r + dv) h4 h5 => PRel.stay (W0 := W0) (wr := wr) (A := A) (c := c) (i := k) (ds := sdig s'.data.toList) (by rw [sdig_length]; exact hks) hn128 hln hnl hv (by omega) h1 h2 (by rw [hdg]; exact h3) h4 h5)
              have HMo := Lib.hid (fun o (cy : Nat) A c wr (h0 : cy ≠ 0) (h9 : cy < 4294967296) (h1 : o.length = n) (h2 : Dig W o) (h3 : nv W o + W ^ n * cy = nv W l * r + dv) h4 h5 => PRel.more (W0 := W0) (wr := wr) (A := A) (c := c) (i := k) (ds := sdig s'.data.toList) (by rw [sdig_length]; exact hks) hv h0 h9 h1 h2 (by rw [hdg]; exact h3) h4 h5)
              have HDL := Lib.hid (And.intro hln hdl)
              have hn9 : n ≤ 9223372036854775807 := by omega
              have hnI : (n : Int) ≤ 128 := by omega
              obtain ⟨wo, hwo⟩ : ∃ wo : World, wo = wr := ⟨_, rfl⟩
              subst hwo
              clear ho hln hdl hnl hv hlt hdg hdv hN
              go_wp2_with (go_at_call 74; (with_reducible refine (HV.out _).mono ?_); rintro e w' ⟨rfl, rfl⟩)
              go_loopw [10, 59] (fun cv kv wr => ∃ k2 : Nat, k2 ≤ n ∧ kv = .int .i64 k2 ∧ PIn W0 A n c l r dv k2 cv wr) (fun _ kv _ => n - (intOf kv).toNat)
              case atStart => exact ⟨0, Nat.zero_le _, rfl, HIn.out⟩
              case round =>
                obtain ⟨k2, hk2, rfl, hin⟩ := hrel
                by_cases hk2n : k2 < n
                · obtain ⟨g, rfl⟩ : ∃ g, A = some ⟨g, 0, none⟩ := by
                    obtain ⟨_, _, _, _, _, _, _, _, h, _⟩ := hin
                    obtain ⟨g, h, _⟩ := Own.at_ h (by omega)
                    exact ⟨g, h⟩
                  obtain ⟨cy, rfl, hcy, hcl, hfz, hst⟩ := hin.facts hk2n hr2 HDL.out.2
                  have hx : l.getD k2 0 < 4294967296 := HDL.out.2.getD (by decide) k2
                  have HS := Lib.hid hst
                  generalize l.getD k2 0 = x at *
                  obtain ⟨hq1, hq2⟩ := par_lt hx hr2 hcy
                  obtain ⟨q, hq⟩ : ∃ q, x * r = q := ⟨_, rfl⟩
                  rw [hq] at HS hq1 hq2
                  have hqi : (x : Int) * (r : Int) = (q : Int) := by rw [← hq]; simp
                  have hk20 : (0 : Int) ≤ (k2 : Int) := by omega
                  have hk21 : (k2 : Int) < (n : Int) := by omega
                  clear hq hst hin
                  go_wp2_with fail
                  go_roundw
                  case rel => exact ⟨k2 + 1, by omega, by go_num, HS.out⟩
                  case measure => simp [intOf]; omega
                · obtain rfl : k2 = n := by omega
                  obtain ⟨o, cy, rfl, hcy, h1, h2, h3, h4, h5⟩ := hin.done HDL.out.1
                  obtain ⟨r0, r1, r2, r3⟩ := (HWB.out.below h5 (by rw [HWZ.out]; omega)).facts
                  clear hin
                  by_cases hc0 : cy = 0
                  · subst hc0
                    have hBW : Below W0.heap.size W0 wr := h5
                    have hM := HSt.out o 0 wr h1 h2 h3 h4 h5
                    have hblen : nv W o < 2 ^ 4096 ↔ blen (nv W o) ≤ 4096 := (blen_le_iff (k := 4096)).symm
                    have HSz := Lib.hid (size_any (Own.sl h4 h2 h1) (by omega))
                    by_cases hbig : nv W o < 2 ^ 4096
                    · have hb3 := hblen.1 hbig
                      have HPR := Lib.hid (hM.2 hbig)
                      generalize blen (nv W o) = x at *
                      have hd8 : decide ((4096 : Int) < (x : Int)) = false := decide_eq_false (by omega)
                      have hd9 : decide (4096 < x) = false := decide_eq_false (by omega)
                      clear hM hblen hbig h1 h2 h3 h4 h5 hBW
                      go_wp2_with (go_at_call 75; (with_reducible refine HSz.out.mono ?_); rintro e w' ⟨rfl, rfl⟩)
                      go_roundw
                      case rel => exact ⟨k + 1, by omega, by go_num, HPR.out⟩
                      case measure => simp [intOf]; omega
                    · have hb3 : 4096 < blen (nv W o) := by
                        rcases Nat.lt_or_ge 4096 (blen (nv W o)) with h | h
                        · exact h
                        · exact absurd (hblen.2 h) hbig
                      have HC := Lib.hid (pCode_long hr hr2 HBd.out (k + 1) (by rw [← HS'.out.1, ← hM.1]; exact hbig))
                      generalize blen (nv W o) = x at *
                      have hd8 : decide ((4096 : Int) < (x : Int)) = true := decide_eq_true (by omega)
                      have hd9 : decide (4096 < x) = true := decide_eq_true (by omega)
                      have HBZ := Lib.hid (HW0.out.trans (hBW.mono (B' := w.heap.size) HW0.out.size))
                      obtain ⟨r0, r1, r2, r3⟩ := (HWB.out.below hBW (by rw [HWZ.out]; omega)).facts
                      clear hM hblen hbig hBW h1 h2 h3 h4 h5
                      go_wp2_with (go_at_call 75; (with_reducible refine HSz.out.mono ?_); rintro e w' ⟨rfl, rfl⟩)
                      exact bodyPost_ret (v := .tuple #[zeroV, .int .i64 10]) (by simp [results, Try.results27, go_sem, r0, r1]) rfl
                        (PostC.bad HC.out (by decide) ((HBZ.out.setCell (by first | omega | (simp; done) | (simp; omega)) _).setCell (by first | omega | (simp; done) | (simp; omega)) _))
                  · have hd6 : decide ((0 : Int) < (cy : Int)) = true := decide_eq_true (by omega)
                    have hd7 : decide (0 < cy) = true := decide_eq_true (by omega)
                    have hcm : (cy : Int) % 4294967296 = (cy : Int) := by omega
                    have HO := Lib.hid h4
                    have H5 := Lib.hid h5
                    have HX := Lib.hid (And.intro h1 (And.intro h2 h3))
                    have hz5 := h5.size
                    have HM2 := Lib.hid (fun A c wr h4 h5 => HMo.out o cy A c wr hc0 hcy h1 h2 h3 h4 h5)
                    clear h4 h5 h1 h2 h3
                    go_wp2_with (at_builtin; refine wpList_append_u32 (by rfl) _ _ (by rfl) _ A k2 c o (by rfl) (Own.alloc HO.out _) wr.heap.size cy (by rfl) (by simp [go_sem]) (by omega) (by simp; omega) ?_; intro A' c' w1 ho1 hb1)
                    have hBW : Below W0.heap.size W0 w1 := (H5.out.alloc hz5 _).trans hb1
                    have hM := HM2.out A' c' w1 ho1 hBW
                    have hblen : nv W (o ++ [cy]) < 2 ^ 4096 ↔ blen (nv W (o ++ [cy])) ≤ 4096 := (blen_le_iff (k := 4096)).symm
                    have HSz := Lib.hid (size_any (Own.sl ho1 (HX.out.2.1.append (Dig.cons hcy (Dig.nil _))) (by simp [HX.out.1])) (by omega))
                    by_cases hbig : nv W (o ++ [cy]) < 2 ^ 4096
                    · have hb3 := hblen.1 hbig
                      have HPR := Lib.hid (hM.2 hbig)
                      generalize blen (nv W (o ++ [cy])) = x at *
                      have hd8 : decide ((4096 : Int) < (x : Int)) = false := decide_eq_false (by omega)
                      have hd9 : decide (4096 < x) = false := decide_eq_false (by omega)
                      clear hM hblen hbig
                      go_wp2_with (go_at_call 75; (with_reducible refine HSz.out.mono ?_); rintro e w' ⟨rfl, rfl⟩)
                      go_roundw
                      case rel => exact ⟨k + 1, by omega, by go_num, HPR.out⟩
                      case measure => simp [intOf]; omega
                    · have hb3 : 4096 < blen (nv W (o ++ [cy])) := by
                        rcases Nat.lt_or_ge 4096 (blen (nv W (o ++ [cy]))) with h | h
                        · exact h
                        · exact absurd (hblen.2 h) hbig
                      have HC := Lib.hid (pCode_long hr hr2 HBd.out (k + 1) (by rw [← HS'.out.1, ← hM.1]; exact hbig))
                      generalize blen (nv W (o ++ [cy])) = x at *
                      have hd8 : decide ((4096 : Int) < (x : Int)) = true := decide_eq_true (by omega)
                      have hd9 : decide (4096 < x) = true := decide_eq_true (by omega)
                      have HBZ := Lib.hid (HW0.out.trans (hBW.mono (B' := w.heap.size) HW0.out.size))
                      obtain ⟨r0, r1, r2, r3⟩ := (HWB.out.below hBW (by rw [HWZ.out]; omega)).facts
                      clear hM hblen hbig hBW
                      go_wp2_with (go_at_call 75; (with_reducible refine HSz.out.mono ?_); rintro e w' ⟨rfl, rfl⟩)
                      exact bodyPost_ret (v := .tuple #[zeroV, .int .i64 10]) (by simp [results, Try.results27, go_sem, r0, r1]) rfl
                        (PostC.bad HC.out (by decide) ((HBZ.out.setCell (by first | omega | (simp; done) | (simp; omega)) _).setCell (by first | omega | (simp; done) | (simp; omega)) _))
            · obtain rfl : k = s'.size := by omega
              have HR := Lib.hid (And.intro ho (And.intro hln (And.intro hdl hlt)))
              rw [List.take_of_length_le (by rw [sdig_length]; exact Nat.le_refl _)] at hv
              have HZ := Lib.hid (show ∀ b, pNeg s.data.toList = b → ival b l = pVal s.data.toList r by
                intro b hb; rw [ival, hv, pVal, hb, HS'.out.1, Int.toNat_natCast])
              have HC := Lib.hid (pCode_ok hr hr2 HBd.out (by rw [← HS'.out.1, ← hv]; exact hlt))
              clear ho hln hdl hlt hv hnl
              go_wp2_with fail
              refine (laid_own _ HR.out.1 HR.out.2.1 HR.out.2.2.1 (HZ.out _ HS'.out.2)).mono ?_
              rintro ex w2 ⟨v, rfl, ⟨A2, c2, rfl, ho2⟩, hb2⟩
              obtain ⟨r0, r1, r2, r3⟩ := (HWB.out.below (HWr.out.trans (hb2.mono HWr.out.size)) (by rw [HWZ.out]; omega)).facts
              have hr9 := fun u u' => ResI.stored (w := w) (g := w.heap.size) (u := u) (u' := u') ⟨A2, c2, rfl, ho2⟩ (HW0.out.trans ((HWr.out.trans (hb2.mono HWr.out.size)).mono HW0.out.size)) (by rw [HWZ.out]; omega) (Nat.le_refl _)
              have HR9 := Lib.hid hr9
              clear hr9 ho2 hb2
              go_wp2
              exact bodyPost_ret (v := .tuple #[.agg #[.bool (decide (pVal s.data.toList r < 0)), .slice A2 (digs W (pVal s.data.toList r).natAbs).length c2], .int .i64 0]) (by simp [results, Try.results27, go_sem, r0, r1]) rfl
                (PostC.ok HC.out (HR9.out _ _).1 (HR9.out _ _).2)
  · obtain ⟨s', hs'⟩ : ∃ s' : ByteArray, s' = s := ⟨_, rfl⟩
    have HS' := Lib.hid (And.intro (show s'.data.toList = pRest s.data.toList by rw [hs', pRest, hng]; rfl) hng)
    have hh : 0 < s'.size := by rw [hs']; exact h1
    have d5 : decide ((0 : Int) < (s'.size : Int)) = true := decide_eq_true (by omega)
    have d6 : decide (0 < s'.size) = true := decide_eq_true hh
    have d7 : ((s'[0].toNat : Int) == 45) = false := beq_eq_false_iff_ne.2 (by subst hs'; omega)
    have hm : s'.size ≤ 9223372036854775807 := by rw [hs']; omega
    rw [show (Value.string s) = .string s' by rw [hs']]
    clear hng h1 hb hs'
    go_enter Try.func27, Try.ntmps27
    go_wp2_with fail
    generalize s'[0].toNat = c0 at *
    clear d1 d2 d5 d6 d7 hs hh
    go_loop [33] (fun i => ∃ k : Nat, k ≤ s'.size ∧ i = .int .i64 k ∧ Hid (∀ j, j < k → (sdig s'.data.toList).getD j 0 < r)) (fun i => s'.size - (intOf i).toNat)
    case atStart => exact ⟨0, Nat.zero_le _, rfl, fun j hj => absurd hj (Nat.not_lt_zero _)⟩
    case round =>
      obtain ⟨k, hk, rfl, hdj⟩ := hrel
      by_cases hks : k < s'.size
      · have hk0 : (0 : Int) ≤ (k : Int) := by omega
        have hk1 : (k : Int) < (s'.size : Int) := by omega
        have HV := Lib.hid (fun w1 => value_any s'[k].toNat w1 (UInt8.toNat_lt _))
        have HG := Lib.hid (sdig_get s' hks)
        have H12 := Lib.hid (fun h => pBad_at (r := r) HS'.out.1 hks h)
        generalize hdv : dval s'[k].toNat = dv at *
        by_cases hlt : dv < r
        · have d3 : decide ((r : Int) ≤ (dv : Int)) = false := decide_eq_false (by omega)
          have d4 : decide (r ≤ dv) = false := decide_eq_false (by omega)
          clear hdv
          go_wp2_with (go_at_call 74; (with_reducible refine (HV.out _).mono ?_); rintro e w' ⟨rfl, rfl⟩)
          go_round
          case rel => exact ⟨k + 1, by omega, by go_num, fun j hj => by
            rcases Nat.lt_or_ge j k with h | h
            · exact hdj.out j h
            · obtain rfl : j = k := by omega
              rw [HG.out]; exact hlt⟩
          case measure => simp [intOf]; omega
        · have d3 : decide ((r : Int) ≤ (dv : Int)) = true := decide_eq_true (by omega)
          have d4 : decide (r ≤ dv) = true := decide_eq_true (by omega)
          have HC := Lib.hid (pCode_bad hr hr2 (H12.out (by omega)))
          clear hdv
          go_wp2_with (go_at_call 74; (with_reducible refine (HV.out _).mono ?_); rintro e w' ⟨rfl, rfl⟩)
          exact bodyPost_ret (v := .tuple #[zeroV, .int .i64 12]) (by simp [results, Try.results27, go_sem]) rfl
            (PostC.bad HC.out (by decide) (HB.out.alloc (Nat.le_refl _) _))
      · obtain rfl : k = s'.size := by omega
        by_cases he : s'.size = 0
        · have e1 := str_empty he
          have HC := Lib.hid (pCode_bad hr hr2 (pBad_empty (r := r) HS'.out.1 he))
          go_wp2
          exact bodyPost_ret (v := .tuple #[zeroV, .int .i64 12]) (by simp [results, Try.results27, go_sem]) rfl
            (PostC.bad HC.out (by decide) (HB.out.alloc (Nat.le_refl _) _))
        · have e1 := str_full he
          have HBd := Lib.hid (pBad_none HS'.out.1 he hdj.out)
          go_wp2_with fail
          have hN := Lib.hid (PRel.start w r (sdig s'.data.toList))
          have HWB := Lib.hid (Bx.new w (.bool false) (.slice none 0 0))
          generalize hW0 : w.alloc (.cells #[.bool false, .slice none 0 0] 24) = W0 at *
          have hW0z : W0.heap.size = w.heap.size + 1 := by rw [← hW0]; simp
          have HW0 := Lib.hid (show Below w.heap.size w W0 by rw [← hW0]; exact HB.out.alloc (Nat.le_refl _) _)
          have HWZ := Lib.hid hW0z
          clear hW0 hW0z
          go_loopw [8, 49] (fun lv i wr => ∃ k : Nat, k ≤ s'.size ∧ i = .int .i64 k ∧ PRel W0 r (sdig s'.data.toList) k lv wr) (fun _ i _ => s'.size - (intOf i).toNat)
          case atStart => exact ⟨0, Nat.zero_le _, rfl, hN.out⟩
          case round =>
            obtain ⟨k, hk, rfl, hrel⟩ := hrel
            have hWb : Below W0.heap.size W0 wr := by obtain ⟨_, _, _, _, _, _, _, _, _, _, _, _, h⟩ := hrel; exact h
            obtain ⟨r0, r1, r2, r3⟩ := (HWB.out.below hWb (by rw [HWZ.out]; omega)).facts
            have HWr := Lib.hid hWb
            clear hWb
            obtain ⟨A, n, c, l, rfl, ho, hln, hn128, hdl, hnl, hv, hlt, _⟩ := hrel
            by_cases hks : k < s'.size
            · have hk0 : (0 : Int) ≤ (k : Int) := by omega
              have hk1 : (k : Int) < (s'.size : Int) := by omega
              have HV := Lib.hid (fun w1 => value_any s'[k].toNat w1 (UInt8.toNat_lt _))
              have hdg := sdig_get s' hks
              have hdr := hdj.out k hks
              rw [hdg] at hdr
              generalize hdv : dval s'[k].toNat = dv at *
              have hdv9 : dv < 4294967296 := by omega
              have HIn := Lib.hid (PIn.start (r := r) (d := dv) ho hln hdl HWr.out hdv9)
              have HSt := Lib.hid (fun o (cy : Nat) wr (h1 : o.length = n) (h2 : Dig W o) (h3 : nv W o + W ^ n * 0 = nv W l * r + dv) h4 h5 => PRel.stay (W0 := W0) (wr := wr) (A := A) (c := c) (i := k) (ds := sdig s'.data.toList) (by rw [sdig_length]; exact hks) hn128 hln hnl hv (by omega) h1 h2 (by rw [hdg]; exact h3) h4 h5)
              have HMo := Lib.hid (fun o (cy : Nat) A c wr (h0 : cy ≠ 0) (h9 : cy < 4294967296) (h1 : o.length = n) (h2 : Dig W o) (h3 : nv W o + W ^ n * cy = nv W l * r + dv) h4 h5 => PRel.more (W0 := W0) (wr := wr) (A := A) (c := c) (i := k) (ds := sdig s'.data.toList) (by rw [sdig_length]; exact hks) hv h0 h9 h1 h2 (by rw [hdg]; exact h3) h4 h5)
              have HDL := Lib.hid (And.intro hln hdl)
              have hn9 : n ≤ 9223372036854775807 := by omega
              have hnI : (n : Int) ≤ 128 := by omega
              obtain ⟨wo, hwo⟩ : ∃ wo : World, wo = wr := ⟨_, rfl⟩
              subst hwo
              clear ho hln hdl hnl hv hlt hdg hdv hN
              go_wp2_with (go_at_call 74; (with_reducible refine (HV.out _).mono ?_); rintro e w' ⟨rfl, rfl⟩)
              go_loopw [10, 59] (fun cv kv wr => ∃ k2 : Nat, k2 ≤ n ∧ kv = .int .i64 k2 ∧ PIn W0 A n c l r dv k2 cv wr) (fun _ kv _ => n - (intOf kv).toNat)
              case atStart => exact ⟨0, Nat.zero_le _, rfl, HIn.out⟩
              case round =>
                obtain ⟨k2, hk2, rfl, hin⟩ := hrel
                by_cases hk2n : k2 < n
                · obtain ⟨g, rfl⟩ : ∃ g, A = some ⟨g, 0, none⟩ := by
                    obtain ⟨_, _, _, _, _, _, _, _, h, _⟩ := hin
                    obtain ⟨g, h, _⟩ := Own.at_ h (by omega)
                    exact ⟨g, h⟩
                  obtain ⟨cy, rfl, hcy, hcl, hfz, hst⟩ := hin.facts hk2n hr2 HDL.out.2
                  have hx : l.getD k2 0 < 4294967296 := HDL.out.2.getD (by decide) k2
                  have HS := Lib.hid hst
                  generalize l.getD k2 0 = x at *
                  obtain ⟨hq1, hq2⟩ := par_lt hx hr2 hcy
                  obtain ⟨q, hq⟩ : ∃ q, x * r = q := ⟨_, rfl⟩
                  rw [hq] at HS hq1 hq2
                  have hqi : (x : Int) * (r : Int) = (q : Int) := by rw [← hq]; simp
                  have hk20 : (0 : Int) ≤ (k2 : Int) := by omega
                  have hk21 : (k2 : Int) < (n : Int) := by omega
                  clear hq hst hin
                  go_wp2_with fail
                  go_roundw
                  case rel => exact ⟨k2 + 1, by omega, by go_num, HS.out⟩
                  case measure => simp [intOf]; omega
                · obtain rfl : k2 = n := by omega
                  obtain ⟨o, cy, rfl, hcy, h1, h2, h3, h4, h5⟩ := hin.done HDL.out.1
                  obtain ⟨r0, r1, r2, r3⟩ := (HWB.out.below h5 (by rw [HWZ.out]; omega)).facts
                  clear hin
                  by_cases hc0 : cy = 0
                  · subst hc0
                    have hBW : Below W0.heap.size W0 wr := h5
                    have hM := HSt.out o 0 wr h1 h2 h3 h4 h5
                    have hblen : nv W o < 2 ^ 4096 ↔ blen (nv W o) ≤ 4096 := (blen_le_iff (k := 4096)).symm
                    have HSz := Lib.hid (size_any (Own.sl h4 h2 h1) (by omega))
                    by_cases hbig : nv W o < 2 ^ 4096
                    · have hb3 := hblen.1 hbig
                      have HPR := Lib.hid (hM.2 hbig)
                      generalize blen (nv W o) = x at *
                      have hd8 : decide ((4096 : Int) < (x : Int)) = false := decide_eq_false (by omega)
                      have hd9 : decide (4096 < x) = false := decide_eq_false (by omega)
                      clear hM hblen hbig h1 h2 h3 h4 h5 hBW
                      go_wp2_with (go_at_call 75; (with_reducible refine HSz.out.mono ?_); rintro e w' ⟨rfl, rfl⟩)
                      go_roundw
                      case rel => exact ⟨k + 1, by omega, by go_num, HPR.out⟩
                      case measure => simp [intOf]; omega
                    · have hb3 : 4096 < blen (nv W o) := by
                        rcases Nat.lt_or_ge 4096 (blen (nv W o)) with h | h
                        · exact h
                        · exact absurd (hblen.2 h) hbig
                      have HC := Lib.hid (pCode_long hr hr2 HBd.out (k + 1) (by rw [← HS'.out.1, ← hM.1]; exact hbig))
                      generalize blen (nv W o) = x at *
                      have hd8 : decide ((4096 : Int) < (x : Int)) = true := decide_eq_true (by omega)
                      have hd9 : decide (4096 < x) = true := decide_eq_true (by omega)
                      have HBZ := Lib.hid (HW0.out.trans (hBW.mono (B' := w.heap.size) HW0.out.size))
                      obtain ⟨r0, r1, r2, r3⟩ := (HWB.out.below hBW (by rw [HWZ.out]; omega)).facts
                      clear hM hblen hbig hBW h1 h2 h3 h4 h5
                      go_wp2_with (go_at_call 75; (with_reducible refine HSz.out.mono ?_); rintro e w' ⟨rfl, rfl⟩)
                      exact bodyPost_ret (v := .tuple #[zeroV, .int .i64 10]) (by simp [results, Try.results27, go_sem, r0, r1]) rfl
                        (PostC.bad HC.out (by decide) ((HBZ.out.setCell (by first | omega | (simp; done) | (simp; omega)) _).setCell (by first | omega | (simp; done) | (simp; omega)) _))
                  · have hd6 : decide ((0 : Int) < (cy : Int)) = true := decide_eq_true (by omega)
                    have hd7 : decide (0 < cy) = true := decide_eq_true (by omega)
                    have hcm : (cy : Int) % 4294967296 = (cy : Int) := by omega
                    have HO := Lib.hid h4
                    have H5 := Lib.hid h5
                    have HX := Lib.hid (And.intro h1 (And.intro h2 h3))
                    have hz5 := h5.size
                    have HM2 := Lib.hid (fun A c wr h4 h5 => HMo.out o cy A c wr hc0 hcy h1 h2 h3 h4 h5)
                    clear h4 h5 h1 h2 h3
                    go_wp2_with (at_builtin; refine wpList_append_u32 (by rfl) _ _ (by rfl) _ A k2 c o (by rfl) (Own.alloc HO.out _) wr.heap.size cy (by rfl) (by simp [go_sem]) (by omega) (by simp; omega) ?_; intro A' c' w1 ho1 hb1)
                    have hBW : Below W0.heap.size W0 w1 := (H5.out.alloc hz5 _).trans hb1
                    have hM := HM2.out A' c' w1 ho1 hBW
                    have hblen : nv W (o ++ [cy]) < 2 ^ 4096 ↔ blen (nv W (o ++ [cy])) ≤ 4096 := (blen_le_iff (k := 4096)).symm
                    have HSz := Lib.hid (size_any (Own.sl ho1 (HX.out.2.1.append (Dig.cons hcy (Dig.nil _))) (by simp [HX.out.1])) (by omega))
                    by_cases hbig : nv W (o ++ [cy]) < 2 ^ 4096
                    · have hb3 := hblen.1 hbig
                      have HPR := Lib.hid (hM.2 hbig)
                      generalize blen (nv W (o ++ [cy])) = x at *
                      have hd8 : decide ((4096 : Int) < (x : Int)) = false := decide_eq_false (by omega)
                      have hd9 : decide (4096 < x) = false := decide_eq_false (by omega)
                      clear hM hblen hbig
                      go_wp2_with (go_at_call 75; (with_reducible refine HSz.out.mono ?_); rintro e w' ⟨rfl, rfl⟩)
                      go_roundw
                      case rel => exact ⟨k + 1, by omega, by go_num, HPR.out⟩
                      case measure => simp [intOf]; omega
                    · have hb3 : 4096 < blen (nv W (o ++ [cy])) := by
                        rcases Nat.lt_or_ge 4096 (blen (nv W (o ++ [cy]))) with h | h
                        · exact h
                        · exact absurd (hblen.2 h) hbig
                      have HC := Lib.hid (pCode_long hr hr2 HBd.out (k + 1) (by rw [← HS'.out.1, ← hM.1]; exact hbig))
                      generalize blen (nv W (o ++ [cy])) = x at *
                      have hd8 : decide ((4096 : Int) < (x : Int)) = true := decide_eq_true (by omega)
                      have hd9 : decide (4096 < x) = true := decide_eq_true (by omega)
                      have HBZ := Lib.hid (HW0.out.trans (hBW.mono (B' := w.heap.size) HW0.out.size))
                      obtain ⟨r0, r1, r2, r3⟩ := (HWB.out.below hBW (by rw [HWZ.out]; omega)).facts
                      clear hM hblen hbig hBW
                      go_wp2_with (go_at_call 75; (with_reducible refine HSz.out.mono ?_); rintro e w' ⟨rfl, rfl⟩)
                      exact bodyPost_ret (v := .tuple #[zeroV, .int .i64 10]) (by simp [results, Try.results27, go_sem, r0, r1]) rfl
                        (PostC.bad HC.out (by decide) ((HBZ.out.setCell (by first | omega | (simp; done) | (simp; omega)) _).setCell (by first | omega | (simp; done) | (simp; omega)) _))
            · obtain rfl : k = s'.size := by omega
              have HR := Lib.hid (And.intro ho (And.intro hln (And.intro hdl hlt)))
              rw [List.take_of_length_le (by rw [sdig_length]; exact Nat.le_refl _)] at hv
              have HZ := Lib.hid (show ∀ b, pNeg s.data.toList = b → ival b l = pVal s.data.toList r by
                intro b hb; rw [ival, hv, pVal, hb, HS'.out.1, Int.toNat_natCast])
              have HC := Lib.hid (pCode_ok hr hr2 HBd.out (by rw [← HS'.out.1, ← hv]; exact hlt))
              clear ho hln hdl hlt hv hnl
              go_wp2_with fail
              refine (laid_own _ HR.out.1 HR.out.2.1 HR.out.2.2.1 (HZ.out _ HS'.out.2)).mono ?_
              rintro ex w2 ⟨v, rfl, ⟨A2, c2, rfl, ho2⟩, hb2⟩
              obtain ⟨r0, r1, r2, r3⟩ := (HWB.out.below (HWr.out.trans (hb2.mono HWr.out.size)) (by rw [HWZ.out]; omega)).facts
              have hr9 := fun u u' => ResI.stored (w := w) (g := w.heap.size) (u := u) (u' := u') ⟨A2, c2, rfl, ho2⟩ (HW0.out.trans ((HWr.out.trans (hb2.mono HWr.out.size)).mono HW0.out.size)) (by rw [HWZ.out]; omega) (Nat.le_refl _)
              have HR9 := Lib.hid hr9
              clear hr9 ho2 hb2
              go_wp2
              exact bodyPost_ret (v := .tuple #[.agg #[.bool (decide (pVal s.data.toList r < 0)), .slice A2 (digs W (pVal s.data.toList r).natAbs).length c2], .int .i64 0]) (by simp [results, Try.results27, go_sem, r0, r1]) rfl
                (PostC.ok HC.out (HR9.out _ _).1 (HR9.out _ _).2)
  · obtain ⟨s', hs'⟩ : ∃ s', s.extract 1 s.size = s' := ⟨_, rfl⟩
    have HS' := Lib.hid (And.intro (show s'.data.toList = pRest s.data.toList by rw [pRest, hng, if_pos rfl, ← hs2, hs']) hng)
    rw [hs'] at hsz2
    have hsz3 : s.size - 1 = s'.size := hsz2.symm
    have d5 : decide ((0 : Int) < (s.size : Int)) = true := decide_eq_true (by omega)
    have d6 : decide (0 < s.size) = true := decide_eq_true h1
    have hm : s'.size ≤ 9223372036854775807 := by omega
    clear hng hs2 hsz2
    go_enter Try.func27, Try.ntmps27
    go_wp2_with fail
    clear hs' hsz3 hb d1 d2 d5 d6 h1 hs
    go_loop [33] (fun i => ∃ k : Nat, k ≤ s'.size ∧ i = .int .i64 k ∧ Hid (∀ j, j < k → (sdig s'.data.toList).getD j 0 < r)) (fun i => s'.size - (intOf i).toNat)
    case atStart => exact ⟨0, Nat.zero_le _, rfl, fun j hj => absurd hj (Nat.not_lt_zero _)⟩
    case round =>
      obtain ⟨k, hk, rfl, hdj⟩ := hrel
      by_cases hks : k < s'.size
      · have hk0 : (0 : Int) ≤ (k : Int) := by omega
        have hk1 : (k : Int) < (s'.size : Int) := by omega
        have HV := Lib.hid (fun w1 => value_any s'[k].toNat w1 (UInt8.toNat_lt _))
        have HG := Lib.hid (sdig_get s' hks)
        have H12 := Lib.hid (fun h => pBad_at (r := r) HS'.out.1 hks h)
        generalize hdv : dval s'[k].toNat = dv at *
        by_cases hlt : dv < r
        · have d3 : decide ((r : Int) ≤ (dv : Int)) = false := decide_eq_false (by omega)
          have d4 : decide (r ≤ dv) = false := decide_eq_false (by omega)
          clear hdv
          go_wp2_with (go_at_call 74; (with_reducible refine (HV.out _).mono ?_); rintro e w' ⟨rfl, rfl⟩)
          go_round
          case rel => exact ⟨k + 1, by omega, by go_num, fun j hj => by
            rcases Nat.lt_or_ge j k with h | h
            · exact hdj.out j h
            · obtain rfl : j = k := by omega
              rw [HG.out]; exact hlt⟩
          case measure => simp [intOf]; omega
        · have d3 : decide ((r : Int) ≤ (dv : Int)) = true := decide_eq_true (by omega)
          have d4 : decide (r ≤ dv) = true := decide_eq_true (by omega)
          have HC := Lib.hid (pCode_bad hr hr2 (H12.out (by omega)))
          clear hdv
          go_wp2_with (go_at_call 74; (with_reducible refine (HV.out _).mono ?_); rintro e w' ⟨rfl, rfl⟩)
          exact bodyPost_ret (v := .tuple #[zeroV, .int .i64 12]) (by simp [results, Try.results27, go_sem]) rfl
            (PostC.bad HC.out (by decide) (HB.out.alloc (Nat.le_refl _) _))
      · obtain rfl : k = s'.size := by omega
        by_cases he : s'.size = 0
        · have e1 := str_empty he
          have HC := Lib.hid (pCode_bad hr hr2 (pBad_empty (r := r) HS'.out.1 he))
          go_wp2
          exact bodyPost_ret (v := .tuple #[zeroV, .int .i64 12]) (by simp [results, Try.results27, go_sem]) rfl
            (PostC.bad HC.out (by decide) (HB.out.alloc (Nat.le_refl _) _))
        · have e1 := str_full he
          have HBd := Lib.hid (pBad_none HS'.out.1 he hdj.out)
          go_wp2_with fail
          have hN := Lib.hid (PRel.start w r (sdig s'.data.toList))
          have HWB := Lib.hid (Bx.new w (.bool false) (.slice none 0 0))
          generalize hW0 : w.alloc (.cells #[.bool false, .slice none 0 0] 24) = W0 at *
          have hW0z : W0.heap.size = w.heap.size + 1 := by rw [← hW0]; simp
          have HW0 := Lib.hid (show Below w.heap.size w W0 by rw [← hW0]; exact HB.out.alloc (Nat.le_refl _) _)
          have HWZ := Lib.hid hW0z
          clear hW0 hW0z
          go_loopw [8, 49] (fun lv i wr => ∃ k : Nat, k ≤ s'.size ∧ i = .int .i64 k ∧ PRel W0 r (sdig s'.data.toList) k lv wr) (fun _ i _ => s'.size - (intOf i).toNat)
          case atStart => exact ⟨0, Nat.zero_le _, rfl, hN.out⟩
          case round =>
            obtain ⟨k, hk, rfl, hrel⟩ := hrel
            have hWb : Below W0.heap.size W0 wr := by obtain ⟨_, _, _, _, _, _, _, _, _, _, _, _, h⟩ := hrel; exact h
            obtain ⟨r0, r1, r2, r3⟩ := (HWB.out.below hWb (by rw [HWZ.out]; omega)).facts
            have HWr := Lib.hid hWb
            clear hWb
            obtain ⟨A, n, c, l, rfl, ho, hln, hn128, hdl, hnl, hv, hlt, _⟩ := hrel
            by_cases hks : k < s'.size
            · have hk0 : (0 : Int) ≤ (k : Int) := by omega
              have hk1 : (k : Int) < (s'.size : Int) := by omega
              have HV := Lib.hid (fun w1 => value_any s'[k].toNat w1 (UInt8.toNat_lt _))
              have hdg := sdig_get s' hks
              have hdr := hdj.out k hks
              rw [hdg] at hdr
              generalize hdv : dval s'[k].toNat = dv at *
              have hdv9 : dv < 4294967296 := by omega
              have HIn := Lib.hid (PIn.start (r := r) (d := dv) ho hln hdl HWr.out hdv9)
              have HSt := Lib.hid (fun o (cy : Nat) wr (h1 : o.length = n) (h2 : Dig W o) (h3 : nv W o + W ^ n * 0 = nv W l * r + dv) h4 h5 => PRel.stay (W0 := W0) (wr := wr) (A := A) (c := c) (i := k) (ds := sdig s'.data.toList) (by rw [sdig_length]; exact hks) hn128 hln hnl hv (by omega) h1 h2 (by rw [hdg]; exact h3) h4 h5)
              have HMo := Lib.hid (fun o (cy : Nat) A c wr (h0 : cy ≠ 0) (h9 : cy < 4294967296) (h1 : o.length = n) (h2 : Dig W o) (h3 : nv W o + W ^ n * cy = nv W l * r + dv) h4 h5 => PRel.more (W0 := W0) (wr := wr) (A := A) (c := c) (i := k) (ds := sdig s'.data.toList) (by rw [sdig_length]; exact hks) hv h0 h9 h1 h2 (by rw [hdg]; exact h3) h4 h5)
              have HDL := Lib.hid (And.intro hln hdl)
              have hn9 : n ≤ 9223372036854775807 := by omega
              have hnI : (n : Int) ≤ 128 := by omega
              obtain ⟨wo, hwo⟩ : ∃ wo : World, wo = wr := ⟨_, rfl⟩
              subst hwo
              clear ho hln hdl hnl hv hlt hdg hdv hN
              go_wp2_with (go_at_call 74; (with_reducible refine (HV.out _).mono ?_); rintro e w' ⟨rfl, rfl⟩)
              go_loopw [10, 59] (fun cv kv wr => ∃ k2 : Nat, k2 ≤ n ∧ kv = .int .i64 k2 ∧ PIn W0 A n c l r dv k2 cv wr) (fun _ kv _ => n - (intOf kv).toNat)
              case atStart => exact ⟨0, Nat.zero_le _, rfl, HIn.out⟩
              case round =>
                obtain ⟨k2, hk2, rfl, hin⟩ := hrel
                by_cases hk2n : k2 < n
                · obtain ⟨g, rfl⟩ : ∃ g, A = some ⟨g, 0, none⟩ := by
                    obtain ⟨_, _, _, _, _, _, _, _, h, _⟩ := hin
                    obtain ⟨g, h, _⟩ := Own.at_ h (by omega)
                    exact ⟨g, h⟩
                  obtain ⟨cy, rfl, hcy, hcl, hfz, hst⟩ := hin.facts hk2n hr2 HDL.out.2
                  have hx : l.getD k2 0 < 4294967296 := HDL.out.2.getD (by decide) k2
                  have HS := Lib.hid hst
                  generalize l.getD k2 0 = x at *
                  obtain ⟨hq1, hq2⟩ := par_lt hx hr2 hcy
                  obtain ⟨q, hq⟩ : ∃ q, x * r = q := ⟨_, rfl⟩
                  rw [hq] at HS hq1 hq2
                  have hqi : (x : Int) * (r : Int) = (q : Int) := by rw [← hq]; simp
                  have hk20 : (0 : Int) ≤ (k2 : Int) := by omega
                  have hk21 : (k2 : Int) < (n : Int) := by omega
                  clear hq hst hin
                  go_wp2_with fail
                  go_roundw
                  case rel => exact ⟨k2 + 1, by omega, by go_num, HS.out⟩
                  case measure => simp [intOf]; omega
                · obtain rfl : k2 = n := by omega
                  obtain ⟨o, cy, rfl, hcy, h1, h2, h3, h4, h5⟩ := hin.done HDL.out.1
                  obtain ⟨r0, r1, r2, r3⟩ := (HWB.out.below h5 (by rw [HWZ.out]; omega)).facts
                  clear hin
                  by_cases hc0 : cy = 0
                  · subst hc0
                    have hBW : Below W0.heap.size W0 wr := h5
                    have hM := HSt.out o 0 wr h1 h2 h3 h4 h5
                    have hblen : nv W o < 2 ^ 4096 ↔ blen (nv W o) ≤ 4096 := (blen_le_iff (k := 4096)).symm
                    have HSz := Lib.hid (size_any (Own.sl h4 h2 h1) (by omega))
                    by_cases hbig : nv W o < 2 ^ 4096
                    · have hb3 := hblen.1 hbig
                      have HPR := Lib.hid (hM.2 hbig)
                      generalize blen (nv W o) = x at *
                      have hd8 : decide ((4096 : Int) < (x : Int)) = false := decide_eq_false (by omega)
                      have hd9 : decide (4096 < x) = false := decide_eq_false (by omega)
                      clear hM hblen hbig h1 h2 h3 h4 h5 hBW
                      go_wp2_with (go_at_call 75; (with_reducible refine HSz.out.mono ?_); rintro e w' ⟨rfl, rfl⟩)
                      go_roundw
                      case rel => exact ⟨k + 1, by omega, by go_num, HPR.out⟩
                      case measure => simp [intOf]; omega
                    · have hb3 : 4096 < blen (nv W o) := by
                        rcases Nat.lt_or_ge 4096 (blen (nv W o)) with h | h
                        · exact h
                        · exact absurd (hblen.2 h) hbig
                      have HC := Lib.hid (pCode_long hr hr2 HBd.out (k + 1) (by rw [← HS'.out.1, ← hM.1]; exact hbig))
                      generalize blen (nv W o) = x at *
                      have hd8 : decide ((4096 : Int) < (x : Int)) = true := decide_eq_true (by omega)
                      have hd9 : decide (4096 < x) = true := decide_eq_true (by omega)
                      have HBZ := Lib.hid (HW0.out.trans (hBW.mono (B' := w.heap.size) HW0.out.size))
                      obtain ⟨r0, r1, r2, r3⟩ := (HWB.out.below hBW (by rw [HWZ.out]; omega)).facts
                      clear hM hblen hbig hBW h1 h2 h3 h4 h5
                      go_wp2_with (go_at_call 75; (with_reducible refine HSz.out.mono ?_); rintro e w' ⟨rfl, rfl⟩)
                      exact bodyPost_ret (v := .tuple #[zeroV, .int .i64 10]) (by simp [results, Try.results27, go_sem, r0, r1]) rfl
                        (PostC.bad HC.out (by decide) ((HBZ.out.setCell (by first | omega | (simp; done) | (simp; omega)) _).setCell (by first | omega | (simp; done) | (simp; omega)) _))
                  · have hd6 : decide ((0 : Int) < (cy : Int)) = true := decide_eq_true (by omega)
                    have hd7 : decide (0 < cy) = true := decide_eq_true (by omega)
                    have hcm : (cy : Int) % 4294967296 = (cy : Int) := by omega
                    have HO := Lib.hid h4
                    have H5 := Lib.hid h5
                    have HX := Lib.hid (And.intro h1 (And.intro h2 h3))
                    have hz5 := h5.size
                    have HM2 := Lib.hid (fun A c wr h4 h5 => HMo.out o cy A c wr hc0 hcy h1 h2 h3 h4 h5)
                    clear h4 h5 h1 h2 h3
                    go_wp2_with (at_builtin; refine wpList_append_u32 (by rfl) _ _ (by rfl) _ A k2 c o (by rfl) (Own.alloc HO.out _) wr.heap.size cy (by rfl) (by simp [go_sem]) (by omega) (by simp; omega) ?_; intro A' c' w1 ho1 hb1)
                    have hBW : Below W0.heap.size W0 w1 := (H5.out.alloc hz5 _).trans hb1
                    have hM := HM2.out A' c' w1 ho1 hBW
                    have hblen : nv W (o ++ [cy]) < 2 ^ 4096 ↔ blen (nv W (o ++ [cy])) ≤ 4096 := (blen_le_iff (k := 4096)).symm
                    have HSz := Lib.hid (size_any (Own.sl ho1 (HX.out.2.1.append (Dig.cons hcy (Dig.nil _))) (by simp [HX.out.1])) (by omega))
                    by_cases hbig : nv W (o ++ [cy]) < 2 ^ 4096
                    · have hb3 := hblen.1 hbig
                      have HPR := Lib.hid (hM.2 hbig)
                      generalize blen (nv W (o ++ [cy])) = x at *
                      have hd8 : decide ((4096 : Int) < (x : Int)) = false := decide_eq_false (by omega)
                      have hd9 : decide (4096 < x) = false := decide_eq_false (by omega)
                      clear hM hblen hbig
                      go_wp2_with (go_at_call 75; (with_reducible refine HSz.out.mono ?_); rintro e w' ⟨rfl, rfl⟩)
                      go_roundw
                      case rel => exact ⟨k + 1, by omega, by go_num, HPR.out⟩
                      case measure => simp [intOf]; omega
                    · have hb3 : 4096 < blen (nv W (o ++ [cy])) := by
                        rcases Nat.lt_or_ge 4096 (blen (nv W (o ++ [cy]))) with h | h
                        · exact h
                        · exact absurd (hblen.2 h) hbig
                      have HC := Lib.hid (pCode_long hr hr2 HBd.out (k + 1) (by rw [← HS'.out.1, ← hM.1]; exact hbig))
                      generalize blen (nv W (o ++ [cy])) = x at *
                      have hd8 : decide ((4096 : Int) < (x : Int)) = true := decide_eq_true (by omega)
                      have hd9 : decide (4096 < x) = true := decide_eq_true (by omega)
                      have HBZ := Lib.hid (HW0.out.trans (hBW.mono (B' := w.heap.size) HW0.out.size))
                      obtain ⟨r0, r1, r2, r3⟩ := (HWB.out.below hBW (by rw [HWZ.out]; omega)).facts
                      clear hM hblen hbig hBW
                      go_wp2_with (go_at_call 75; (with_reducible refine HSz.out.mono ?_); rintro e w' ⟨rfl, rfl⟩)
                      exact bodyPost_ret (v := .tuple #[zeroV, .int .i64 10]) (by simp [results, Try.results27, go_sem, r0, r1]) rfl
                        (PostC.bad HC.out (by decide) ((HBZ.out.setCell (by first | omega | (simp; done) | (simp; omega)) _).setCell (by first | omega | (simp; done) | (simp; omega)) _))
            · obtain rfl : k = s'.size := by omega
              have HR := Lib.hid (And.intro ho (And.intro hln (And.intro hdl hlt)))
              rw [List.take_of_length_le (by rw [sdig_length]; exact Nat.le_refl _)] at hv
              have HZ := Lib.hid (show ∀ b, pNeg s.data.toList = b → ival b l = pVal s.data.toList r by
                intro b hb; rw [ival, hv, pVal, hb, HS'.out.1, Int.toNat_natCast])
              have HC := Lib.hid (pCode_ok hr hr2 HBd.out (by rw [← HS'.out.1, ← hv]; exact hlt))
              clear ho hln hdl hlt hv hnl
              go_wp2_with fail
              refine (laid_own _ HR.out.1 HR.out.2.1 HR.out.2.2.1 (HZ.out _ HS'.out.2)).mono ?_
              rintro ex w2 ⟨v, rfl, ⟨A2, c2, rfl, ho2⟩, hb2⟩
              obtain ⟨r0, r1, r2, r3⟩ := (HWB.out.below (HWr.out.trans (hb2.mono HWr.out.size)) (by rw [HWZ.out]; omega)).facts
              have hr9 := fun u u' => ResI.stored (w := w) (g := w.heap.size) (u := u) (u' := u') ⟨A2, c2, rfl, ho2⟩ (HW0.out.trans ((HWr.out.trans (hb2.mono HWr.out.size)).mono HW0.out.size)) (by rw [HWZ.out]; omega) (Nat.le_refl _)
              have HR9 := Lib.hid hr9
              clear hr9 ho2 hb2
              go_wp2
              exact bodyPost_ret (v := .tuple #[.agg #[.bool (decide (pVal s.data.toList r < 0)), .slice A2 (digs W (pVal s.data.toList r).natAbs).length c2], .int .i64 0]) (by simp [results, Try.results27, go_sem, r0, r1]) rfl
                (PostC.ok HC.out (HR9.out _ _).1 (HR9.out _ _).2)
theorem Parse_any (s : ByteArray) (r : Int) (w : World) (hs : s.size ≤ maxLen) :
    Calls Try.prog 27 #[.string s, .int .i64 r] w (PostC w (pVal s.data.toList r) (pCode s.data.toList r)) := by
  by_cases h : r < 2 ∨ 36 < r
  · exact Parse_radix s r w h _ _ (by rw [pCode, if_pos h])
  · obtain ⟨n, rfl⟩ := Int.eq_ofNat_of_zero_le (show 0 ≤ r by omega)
    exact Parse_good s n w hs (by omega) (by omega)
end Go.Proofs.Ytggdmhkdmkldoaa
