import Derived.Test.YtggdmhkdmkldoaaBq
namespace Go.Proofs.Ytggdmhkdmkldoaa
open Go.RowKit Hb

/-- quotient and remainder, each in memory of the call's own -/
def DivPost (w : World) (a b bound : Nat) (e : Ending) (w' : World) : Prop :=
  ∃ (A1 A2 : Option Addr) (n1 c1 n2 c2 : Nat) (o1 o2 : List Nat), e = .returned (.tuple #[.slice A1 n1 c1, .slice A2 n2 c2]) ∧
    OwnU w' w.heap.size A1 n1 c1 (u32s o1) ∧ o1.length = n1 ∧ Dig W o1 ∧ nv W o1 = a / b ∧ n1 ≤ bound ∧
    OwnU w' w.heap.size A2 n2 c2 (u32s o2) ∧ o2.length = n2 ∧ Dig W o2 ∧ nv W o2 = a % b ∧ n2 ≤ bound ∧ (A1 = none ∨ A1 ≠ A2) ∧ Below w.heap.size w w'

set_option maxHeartbeats 1000000 in
theorem div_small {B B' : Nat} {A A' : Option Addr} {l m : List Nat} {n c n' c' : Nat} {w : World} (hs : SlU w B A n c l) (ht : SlU w B' A' n' c' m) (hn : n ≤ 67108863) (hB : B ≤ w.heap.size) (_hB' : B' ≤ w.heap.size) (hlt : nv W l < nv W m) :
    Calls Try.prog 70 #[.slice A n c, .slice A' n' c'] w (DivPost w (nv W l) (nv W m) (n + 1)) := by
  have H1 := Lib.hid (trim_any hs)
  have H2 := Lib.hid (trim_any ht)
  have HC := Lib.hid (cmp_v hs.tr ht.tr (v := -1) (by rw [nv_tr, nv_tr, cmpN_lt hlt]))
  have hl1 := tlen_le l
  have hl2 := hs.len
  have HO := Lib.hid (fun w1 (hd : Dr w w1) => own_any ((hs.tr).below (hd.below w.heap.size) hB) (by omega) (by rw [hd.heap]; exact hB))
  have HD := Lib.hid hs.dig.tr
  have HN := Lib.hid (show tlen l ≤ n + 1 by omega)
  have HLt := Lib.hid hlt
  clear hs ht hn hB _hB' hl1 hl2 hlt
  go_enter Try.func70, Try.ntmps70
  go_wp2_with fail
  refine H1.out.mono ?_; rintro e w' ⟨rfl, rfl⟩
  go_wp2_with fail
  refine H2.out.mono ?_; rintro e w' ⟨rfl, rfl⟩
  go_wp2_with fail
  refine HC.out.mono ?_; rintro e w1 ⟨rfl, hdr⟩
  go_wp2_with fail
  refine (HO.out _ hdr).mono ?_; rintro e w2 ⟨A2, n2, c2, rfl, ho, hl, hb⟩
  have HR := Lib.hid (And.intro ho (And.intro hl hb))
  have HH := Lib.hid hdr.heap
  have HB := Lib.hid (hdr.below w.heap.size)
  clear ho hl hb hdr
  go_wp2_with fail
  go_ret2
  obtain ⟨ho, hl, hb⟩ := HR.out
  rw [HH.out] at ho hb
  have hq := HLt.out
  exact ⟨none, A2, 0, 0, n2, c2, [], tr l, rfl, World.ownsRow_nil _ _ _ _, rfl, Dig.nil _, by rw [Nat.div_eq_of_lt hq]; rfl, Nat.zero_le _, ho, hl, HD.out, by rw [nv_tr, Nat.mod_eq_of_lt hq], by rw [← hl, tr_length]; exact HN.out, .inl rfl, HB.out.trans hb⟩

theorem far1 {w2 : World} {g i : Nat} {q : Addr} {u v : Value} (h : w2.cell? q = some v) (hne : q.block ≠ g) : (w2.setCell ⟨g, i, none⟩ u).cell? q = some v := by
  rw [World.cell?_setCell_other _ _ _ _ (fun e => hne (by rw [← e])), h]
/-- at the head of the loop over one limb: j limbs are left -/
def OneRel (w : World) (g y : Nat) (l : List Nat) (N j : Nat) (rv : Value) (wr : World) : Prop :=
  ∃ (o : List Nat) (r : Nat), rv = .int .u32 (r : Int) ∧ r < y ∧ o.length = N ∧ Dig W o ∧ nv W (o.drop j) * y + r = nv W (l.drop j) ∧
    OwnU wr w.heap.size (some ⟨g, 0, none⟩) N N (u32s o) ∧ Below w.heap.size w wr
theorem OneRel.drewN {w wr : World} {g y : Nat} {l : List Nat} {N j : Nat} {rv : Value} (h : OneRel w g y l N j rv wr) (k : Nat) : OneRel w g y l N j rv (wr.drewN k) := by
  obtain ⟨o, r, h1, h2, h3, h4, h5, h6, h7⟩ := h
  exact ⟨o, r, h1, h2, h3, h4, h5, h6, belowN h7 k⟩
theorem OneRel.dr {w wr wr' : World} {g y : Nat} {l : List Nat} {N j : Nat} {rv : Value} (h : OneRel w g y l N j rv wr) (hd : Dr wr wr') : OneRel w g y l N j rv wr' := by
  obtain ⟨k, rfl⟩ := hd
  exact h.drewN k
theorem OneRel.start {w w0 : World} {y : Nat} {l : List Nat} {N : Nat} (hy : 0 < y) (hl : l.length = N) (hn : N ≤ maxLen) (hb : Below w.heap.size w w0) : OneRel w w0.heap.size y l N N (.int .u32 0) (w0.alloc (.cells (madeCells #[.int .u32 0] N) 48)) := by
  refine ⟨List.replicate N 0, 0, rfl, hy, by simp, Dig.replicate _ _ (by decide), ?_, ?_, hb.alloc hb.size _⟩
  · rw [List.drop_eq_nil_of_le (by simp), List.drop_eq_nil_of_le (by omega)]; simp [nv]
  · have := Own.made w0 (.int .u32 0) N 48 (B := w.heap.size) hb.size hn
    rwa [u32s_zeros] at this
theorem OneRel.facts {w wr : World} {g y : Nat} {l : List Nat} {N j : Nat} {rv : Value} (h : OneRel w g y l N (j + 1) rv wr) (hj : j < N) (hl : Dig W l) (hlen : l.length = N) (hy : y < 4294967296) (hg : w.heap.size ≤ g) :
    ∃ r x : Nat, rv = .int .u32 (r : Int) ∧ r < y ∧ l.getD j 0 = x ∧ x < 4294967296 ∧ (∃ u, wr.cell? ⟨g, j, none⟩ = some u) ∧ wr.frozen? ⟨g, j, none⟩ = false ∧ Below w.heap.size w wr ∧
      OneRel w g y l N j (.int .u32 (((r * 4294967296 + x) % y : Nat) : Int)) (wr.setCell ⟨g, j, none⟩ (.int .u32 (((r * 4294967296 + x) / y : Nat) : Int))) := by
  obtain ⟨o, r, rfl, hr, h1, h2, h3, h4, h5⟩ := h
  have hx : l.getD j 0 < 4294967296 := hl.getD (by decide) j
  refine ⟨r, l.getD j 0, rfl, hr, rfl, hx, ⟨_, by rw [h4.cell hj, u32s_get (by omega)]⟩, h4.frozen j, h5, ?_⟩
  have hq : (r * 4294967296 + l.getD j 0) / y < 4294967296 := by
    refine Nat.div_lt_of_lt_mul ?_
    have : (r + 1) * 4294967296 ≤ y * 4294967296 := Nat.mul_le_mul_right _ hr
    omega
  refine ⟨o.set j ((r * 4294967296 + l.getD j 0) / y), _, rfl, Nat.mod_lt _ (by omega), by simpa using h1, h2.set hq _, ?_, ?_, h5.setCell hg _⟩
  · have e1 : (o.set j ((r * 4294967296 + l.getD j 0) / y)).drop j = ((r * 4294967296 + l.getD j 0) / y) :: o.drop (j + 1) := by
      rw [List.drop_eq_getElem_cons (by simp; omega), List.getElem_set_self, drop_set_hi (by omega)]
    rw [e1, nv_cons, drop_nv W l (by omega), ← h3]
    have hdm := Nat.div_add_mod' (r * 4294967296 + l.getD j 0) y
    rw [Nat.add_mul, Nat.mul_add, Nat.mul_assoc]
    have e : W * r = r * 4294967296 := Nat.mul_comm _ _
    omega
  · have := h4.set_ j (.int .u32 (((r * 4294967296 + l.getD j 0) / y : Nat) : Int))
    rwa [u32s_set] at this

attribute [local go_sem ↓] Go.wp_at_zero Go.wp_at_succ
set_option maxHeartbeats 2000000 in
theorem div_one {B B' : Nat} {A A' : Option Addr} {l m : List Nat} {n c n' c' : Nat} {w : World} (hs : SlU w B A n c l) (ht : SlU w B' A' n' c' m) (hn : n ≤ 67108863) (hB : B ≤ w.heap.size) (hB' : B' ≤ w.heap.size) (hge : nv W m ≤ nv W l) (hone : tlen m = 1) :
    Calls Try.prog 70 #[.slice A n c, .slice A' n' c'] w (DivPost w (nv W l) (nv W m) (n + 1)) := by
  have H1 := Lib.hid (trim_any hs)
  have H2 := Lib.hid (trim_any ht)
  obtain ⟨cv, hcv⟩ : ∃ cv, cmpN (nv W l) (nv W m) = cv := ⟨_, rfl⟩
  have hcd : decide (cv < 0) = false := decide_eq_false (by rw [← hcv]; unfold cmpN; split <;> (try split) <;> omega)
  have HC := Lib.hid (cmp_v hs.tr ht.tr (v := cv) (by rw [nv_tr, nv_tr, hcv]))
  have hl1 := tlen_le l
  have hl2 := hs.len
  have h3 := hs.tr
  have h4 := ht.tr
  have hmv := nv_pos_of (l := m) (by omega)
  rw [← nv_tr W l, ← nv_tr W m]
  rw [← nv_tr W m] at hmv
  rw [hone] at H2 h4 HC
  generalize tr l = l' at *
  generalize tr m = m' at *
  generalize tlen l = N at *
  have hmk := makeU N (by omega)
  obtain ⟨y, rfl⟩ : ∃ y, m' = [y] := by
    have := h4.len
    match m', this with
    | [y], _ => exact ⟨y, rfl⟩
  rw [nv_single] at hmv ⊢
  have hy : y < 4294967296 := h4.dig.head
  obtain ⟨bb, oo, rfl, hbb, hcy⟩ := h4.at_ (by omega)
  have hcy := hcy 0 (by omega)
  simp only [List.getD_cons_zero, Nat.add_zero] at hcy
  have hlen := h3.len
  have HST := Lib.hid (fun w1 (hd : Dr w w1) => OneRel.start (w := w) (w0 := w1) (y := y) hmv hlen (by simp [maxLen]; omega) (hd.below _))
  have HDl := Lib.hid h3.dig
  have HLen := Lib.hid hlen
  have hN9 : N ≤ 1000000000 := by omega
  have HNn := Lib.hid (show N ≤ n + 1 by omega)
  clear hs ht hn hl1 hl2 hone hge hcv h4 hlen
  go_enter Try.func70, Try.ntmps70
  go_wp2_with fail
  refine H1.out.mono ?_; rintro e w' ⟨rfl, rfl⟩
  go_wp2_with fail
  refine H2.out.mono ?_; rintro e w' ⟨rfl, rfl⟩
  go_wp2_with fail
  refine HC.out.mono ?_; rintro e w1 ⟨rfl, hdr⟩
  go_wp2_with fail
  have HS1 := Lib.hid (HST.out _ hdr)
  have HG := Lib.hid (show w.heap.size ≤ w1.heap.size by rw [hdr.heap]; exact Nat.le_refl _)
  clear hdr
  go_loopw [7, 8] (fun rv iv wr => ∃ j : Nat, j ≤ N ∧ iv = .int .i64 ((j : Int) - 1) ∧ OneRel w w1.heap.size y l' N j rv wr) (fun _ iv _ => (intOf iv + 1).toNat)
  case atStart => exact ⟨N, Nat.le_refl _, rfl, HS1.out⟩
  case round =>
    obtain ⟨j, hj, rfl, hrel⟩ := hrel
    by_cases h0 : j = 0
    · subst h0
      obtain ⟨o, r, rfl, hr, h1, h2, h5, h6, h7⟩ := hrel
      have HO := Lib.hid h6
      have HB := Lib.hid h7
      have HO2 := Lib.hid (h6.alloc (.cells #[.int .u32 (r : Int)] 48))
      have HR2 := Lib.hid (Own.of_block (B := w.heap.size) (xs := u32s [r]) (t := 48) (heap_alloc_new wr _) h7.size (by simp [u32s_length, maxLen]))
      have HV := Lib.hid h5
      have HI := Lib.hid h1
      have HDo := Lib.hid h2
      have HRy := Lib.hid hr
      have HLT := Lib.hid (show w1.heap.size < wr.heap.size by
        rcases h6.form with ⟨h, _⟩ | ⟨g, hg, _, hlt⟩
        · cases h
        · injection hg with hg; injection hg with hg; omega)
      clear h6 h7 h5 h1 h2 hr hcy hmk
      go_wp2_with fail
      go_ret2
      have hv := HV.out
      rw [List.drop_zero, List.drop_zero] at hv
      have hq : nv W l' / y = nv W o := by rw [← hv, Nat.add_comm, Nat.add_mul_div_right _ _ hmv, Nat.div_eq_of_lt HRy.out, Nat.zero_add]
      have hrr : nv W l' % y = r := by rw [← hv, Nat.add_comm, Nat.add_mul_mod_self_right, Nat.mod_eq_of_lt HRy.out]
      refine ⟨_, _, _, _, _, _, o, [r], rfl, HO2.out, HI.out, HDo.out, hq.symm, HNn.out, HR2.out, rfl, Dig.cons (Nat.lt_trans HRy.out hy) (Dig.nil _), by rw [hrr]; simp [nv], by omega, .inr ?_, HB.out.alloc (by exact HB.out.size) _⟩
      intro e
      have := HLT.out
      injection e with e; injection e with e
      omega
    · obtain ⟨i, rfl⟩ : ∃ i, j = i + 1 := ⟨j - 1, by omega⟩
      obtain ⟨b, off, rfl, hba, hcell⟩ := h3.at_ (by omega)
      obtain ⟨r, x, rfl, hr, hxe, hx, ⟨u, hcu⟩, hfz, hbel, hstep⟩ := hrel.facts (by omega) HDl.out HLen.out hy HG.out
      have hcx := (hbel.cell (p := ⟨b, off + i, none⟩) (Nat.lt_of_lt_of_le hba hB)).trans (hcell i (by omega))
      have hcy := (hbel.cell (p := ⟨bb, oo, none⟩) (Nat.lt_of_lt_of_le hbb hB')).trans hcy
      rw [hxe] at hcx
      have HS := Lib.hid hstep
      have HA := Lib.hid (fun w1 => div32_any r x y w1 hr hy hx)
      have hne1 : b ≠ w1.heap.size := by have := HG.out; omega
      have hne2 : bb ≠ w1.heap.size := by have := HG.out; omega
      have hi0 : (0 : Int) ≤ (i : Int) := by omega
      have hi1 : (i : Int) < (N : Int) := by omega
      clear hstep hxe hcell hrel h3 h0 HS1 hmk
      go_wp2_with fail
      go_region_held3 (fun w' => w'.cell? ⟨b, off + i, none⟩ = some (.int .u32 (x : Int)) ∧ w'.cell? ⟨bb, oo, none⟩ = some (.int .u32 (y : Int)))
        (first
          | (go_keep; done)
          | (obtain ⟨S1, S2⟩ : _ ∧ _ := by assumption
             first | exact ⟨(hdr2.cell _).trans S1, (hdr2.cell _).trans S2⟩ | exact ⟨far1 S1 hne1, far1 S2 hne2⟩))
        (first
          | (go_at_call 81; (with_reducible refine (HA.out _).mono ?_); rintro e w5 ⟨rfl, hdr2⟩; have hcu5 := (hdr2.cell _).trans hcu; have hfz5 := (hdr2.frozen _).trans hfz))
      all_goals
        go_wp2_with fail
        go_roundw
        case rel => exact ⟨i, by omega, by go_num, HS.out.dr ((Dr.trans (Dr.refl wr).drew hdr2).setCell _ _)⟩
        case measure => simp [intOf]
end Go.Proofs.Ytggdmhkdmkldoaa
