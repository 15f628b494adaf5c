import Derived.Test.YtgfeainpeplphaaDoorHv
namespace Go.Proofs.YtgfeainpeplphaaDoor
open Go.RowKit Hb Ht
set_option linter.unusedVariables false
set_option linter.unusedSimpArgs false
attribute [local go_sem] Oper.semAt_some
/-! ### term.checks, dcg.check -/
theorem RowP.elt {w : World} {P : Nat → Prop} {A : Option Addr} {n : Nat} {ps : List (Tm × Value)} (h : RowP w P A n ps) {i : Nat} {p : Tm × Value} (hp : ps[i]? = some p) : ∃ g o, A = some ⟨g, o, none⟩ ∧ g < w.heap.size ∧ EltP w P g (o + i * 6) p.1 := by
  have hi : i < n := by rw [← h.1]; exact (List.getElem?_eq_some_iff.1 hp).1
  obtain ⟨g, o, e, hg, hc⟩ := h.2.2 (by omega)
  refine ⟨g, o, e, hg, p.2, fun j hj => ?_, h.2.1 p (List.mem_of_getElem? hp)⟩
  have hc2 := fl6_get hp hj
  have hlt : j < (cells6 p.1 p.2).length := hj
  rw [List.getElem?_eq_getElem hlt] at hc2 ⊢
  rw [Nat.add_assoc]
  exact hc _ _ hc2
theorem EltP.at_ {w : World} {P : Nat → Prop} {g o : Nat} {a : Tm} (h : EltP w P g o a) (hP : ∀ b, P b → b < w.heap.size) : EltAt w w.heap.size g o a := by
  obtain ⟨sl, h1, h2⟩ := h
  exact ⟨sl, h1, h2.at_ hP⟩
theorem RowP.below {w w' : World} {P : Nat → Prop} {A : Option Addr} {n : Nat} {ps : List (Tm × Value)} (h : RowP w P A n ps) (hb : Below w.heap.size w w') (hP : ∀ b, P b → b < w.heap.size) : RowP w' P A n ps :=
  ⟨h.1, fun p hp => (h.2.1 p hp).below hb hP, fun hn => by
    obtain ⟨g, o, e, hg, hc⟩ := h.2.2 hn
    exact ⟨g, o, e, Nat.lt_of_lt_of_le hg hb.size, fun j u hj => (hb.cell (p := ⟨g, o + j, none⟩) hg).trans (hc j u hj)⟩⟩
abbrev checksP (l : List Tm) : Int := checks Lib.validD canonB floB l
theorem checks_drop {ts : List Tm} {i : Nat} {a : Tm} (ha : ts[i]? = some a) {R : Int} (h : checksP (ts.drop i) = R) : (checkP a ≠ 0 → checkP a = R) ∧ (checkP a = 0 → checksP (ts.drop (i + 1)) = R) := by
  obtain ⟨hil, e⟩ := List.getElem?_eq_some_iff.1 ha
  rw [List.drop_eq_getElem_cons hil, e, checksP, checks] at h
  by_cases h0 : check Lib.validD canonB floB a = 0
  · rw [if_neg (by simp [h0])] at h
    exact ⟨fun h1 => absurd h0 h1, fun _ => h⟩
  · rw [if_pos h0] at h
    exact ⟨fun _ => h, fun h1 => absurd h1 h0⟩
def errV (c : Int) : Value := if c = 0 then .nilIface else .iface 32 (.int .i64 c)
set_option maxRecDepth 100000 in
set_option maxHeartbeats 4000000 in
theorem checks_any {w0 w : World} {P : Nat → Prop} {A : Option Addr} {n c : Nat} {ps : List (Tm × Value)} (h : RowP w P A n ps) (hP : ∀ b, P b → b < w.heap.size) (hn : n ≤ maxArgs) (hc : n ≤ c) (hU : UOk w0 w) :
    Calls Tryd.prog 57 #[.slice A n c] w fun e w' => e = .returned (.int .i64 (checksP (ps.map (·.1)))) ∧ Below w.heap.size w w' := by
  obtain ⟨R, hR⟩ : ∃ R, checksP (ps.map (·.1)) = R := ⟨_, rfl⟩
  rw [hR]
  obtain ⟨ts, hts⟩ : ∃ ts, ps.map (·.1) = ts := ⟨_, rfl⟩
  rw [hts] at hR
  have HL := Lib.hid (show ts.length = n from by rw [← hts, List.length_map, h.1])
  have HH := Lib.hid (And.intro h (And.intro hP hts))
  have HU := Lib.hid hU
  have HR := Lib.hid hR
  have hnI : (n : Int) ≤ 1759218604400 := by unfold maxArgs at hn; omega
  clear h hP hR hU hts
  go_enter Tryd.func57, Tryd.ntmps57
  go_upto_region 2 with fail
  go_loopw [8] (fun vi wr => ∃ i : Nat, vi = .int .i64 (i : Int) ∧ i ≤ n ∧ Hid (checksP (ts.drop i) = R ∧ Below w.heap.size w wr)) (fun vi _ => ((n : Int) - intOf vi).toNat)
  case atStart => exact ⟨0, rfl, Nat.zero_le _, Lib.hid ⟨HR.out, Below.refl _ _⟩⟩
  case round =>
    obtain ⟨i, rfl, hi, HI⟩ := hrel
    by_cases hlt : i < n
    · have hltI : (i : Int) < (n : Int) := by omega
      have hi0 : (0 : Int) ≤ (i : Int) := by omega
      obtain ⟨p, hp⟩ : ∃ p, ps[i]? = some p := ⟨_, List.getElem?_eq_getElem (by rw [HH.out.1.1]; exact hlt)⟩
      have ha : ts[i]? = some p.1 := by rw [← HH.out.2.2, List.getElem?_map, hp]; rfl
      obtain ⟨g, o, rfl, hgB, helt0⟩ := (HH.out.1.below HI.out.2 HH.out.2.1).elt hp
      have helt := EltP.at_ helt0 (fun b hb => Nat.lt_of_lt_of_le (HH.out.2.1 b hb) HI.out.2.size)
      have HD := Lib.hid (checks_drop ha HI.out.1)
      obtain ⟨pt, psl⟩ := p
      obtain ⟨A', c', k', n', m', b', v', ts', nb', mb', rfl, hnb', hmb', hta, e0, e1, e2, e3, e4, e5⟩ := EltAt.cells helt
      obtain ⟨q, hq⟩ : ∃ q, ts'.length = q := ⟨_, rfl⟩
      have HN := Lib.hid (And.intro hnb' hmb')
      have HTA := Lib.hid hta
      have HLT := Lib.hid hlt
      have HQ := Lib.hid hq
      rw [hq] at e5
      clear helt helt0 hta hnb' hmb' ha hlt hi hq hp
      go_upto_region 4 with fail
      have HX2 := Lib.hid (TBox.new (ts := ts') wr (k := k') (b := b') (v := v') (sl := .slice A' q c') HN.out.1 HN.out.2)
      have hb3 : Below wr.heap.size wr (wr.alloc (.cells #[.int .i64 k', .string nb', .string mb', .int .u64 b', .int .i64 v', .slice A' q c'] 25)) := (Below.refl _ _).alloc (Nat.le_refl _) _
      have HB3 := Lib.hid (HI.out.2.trans (hb3.mono HI.out.2.size))
      have HCl := Lib.hid (Check_any (HTA.out.to hb3 hb3.size) (HU.out.below HB3.out))
      rw [valT_mk HN.out.1 HN.out.2, HQ.out] at HCl
      obtain ⟨R1, hR1⟩ : ∃ R1, checkP (.mk k' n' m' b' v' ts') = R1 := ⟨_, rfl⟩
      rw [hR1] at HCl HD
      clear hR1 hb3
      generalize wr.alloc (.cells #[.int .i64 k', .string nb', .string mb', .int .u64 b', .int .i64 v', .slice A' q c'] 25) = W2 at *
      generalize wr.heap.size = gB at *
      obtain ⟨y0, y1, y2, y3, y4, y5⟩ := HX2.out.cells HN.out.1 HN.out.2
      clear e0 e1 e2 e3 e4 e5
      by_cases h1 : R1 = 0
      · subst h1
        have HE := Lib.hid (HD.out.2 rfl)
        go_wp2_with (go_at_call 56; (with_reducible refine HCl.out.mono ?_); rintro e w' ⟨rfl, hb4⟩; have HB4 := Lib.hid (HB3.out.trans (hb4.mono HB3.out.size)); clear hb4)
        go_roundw
        case rel => exact ⟨i + 1, rfl, HLT.out, Lib.hid ⟨HE.out, HB4.out⟩⟩
        case measure =>
          have := HLT.out
          show ((n : Int) - ((i : Int) + 1)).toNat < ((n : Int) - (i : Int)).toNat
          omega
      · have h1b : (R1 != 0) = true := by simpa using h1
        have HE := Lib.hid (HD.out.1 h1)
        have H1 := Lib.hid h1
        clear h1
        go_wp2_with (go_at_call 56; (with_reducible refine HCl.out.mono ?_); rintro e w' ⟨rfl, hb4⟩; have HB4 := Lib.hid (HB3.out.trans (hb4.mono HB3.out.size)); clear hb4)
        have h1 := H1.out
        go_ret
        exact ⟨by rw [← HE.out]; rfl, HB4.out⟩
    · have ei : i = n := by omega
      subst ei
      have HE := Lib.hid (show (0 : Int) = R ∧ Below w.heap.size w wr from by
        have h9 := HI.out
        rw [List.drop_of_length_le (by rw [HL.out]; exact Nat.le_refl _)] at h9
        exact h9)
      clear hlt hi
      go_wp2
      go_ret
      exact ⟨by rw [← HE.out.1]; rfl, HE.out.2⟩
set_option maxRecDepth 100000 in
set_option maxHeartbeats 4000000 in
theorem dcheck_any {w0 w : World} {P : Nat → Prop} {A : Option Addr} {n c : Nat} {ps : List (Tm × Value)} (h : RowP w P A n ps) (hP : ∀ b, P b → b < w.heap.size) (hn : n ≤ maxArgs) (hc : n ≤ c) (hU : UOk w0 w) :
    Calls Tryd.prog 27 #[.slice A n c] w fun e w' => e = .returned (errV (checksP (ps.map (·.1)))) ∧ Below w.heap.size w w' := by
  obtain ⟨R, hR⟩ : ∃ R, checksP (ps.map (·.1)) = R := ⟨_, rfl⟩
  rw [hR]
  obtain ⟨ts, hts⟩ : ∃ ts, ps.map (·.1) = ts := ⟨_, rfl⟩
  rw [hts] at hR
  have HL := Lib.hid (show ts.length = n from by rw [← hts, List.length_map, h.1])
  have HH := Lib.hid (And.intro h (And.intro hP hts))
  have HU := Lib.hid hU
  have HR := Lib.hid hR
  have hnI : (n : Int) ≤ 1759218604400 := by unfold maxArgs at hn; omega
  clear h hP hR hU hts
  go_enter Tryd.func27, Tryd.ntmps27
  go_upto_region 2 with fail
  go_loopw [8] (fun vi wr => ∃ i : Nat, vi = .int .i64 (i : Int) ∧ i ≤ n ∧ Hid (checksP (ts.drop i) = R ∧ Below w.heap.size w wr)) (fun vi _ => ((n : Int) - intOf vi).toNat)
  case atStart => exact ⟨0, rfl, Nat.zero_le _, Lib.hid ⟨HR.out, Below.refl _ _⟩⟩
  case round =>
    obtain ⟨i, rfl, hi, HI⟩ := hrel
    by_cases hlt : i < n
    · have hltI : (i : Int) < (n : Int) := by omega
      have hi0 : (0 : Int) ≤ (i : Int) := by omega
      obtain ⟨p, hp⟩ : ∃ p, ps[i]? = some p := ⟨_, List.getElem?_eq_getElem (by rw [HH.out.1.1]; exact hlt)⟩
      have ha : ts[i]? = some p.1 := by rw [← HH.out.2.2, List.getElem?_map, hp]; rfl
      obtain ⟨g, o, rfl, hgB, helt0⟩ := (HH.out.1.below HI.out.2 HH.out.2.1).elt hp
      have helt := EltP.at_ helt0 (fun b hb => Nat.lt_of_lt_of_le (HH.out.2.1 b hb) HI.out.2.size)
      have HD := Lib.hid (checks_drop ha HI.out.1)
      obtain ⟨pt, psl⟩ := p
      obtain ⟨A', c', k', n', m', b', v', ts', nb', mb', rfl, hnb', hmb', hta, e0, e1, e2, e3, e4, e5⟩ := EltAt.cells helt
      obtain ⟨q, hq⟩ : ∃ q, ts'.length = q := ⟨_, rfl⟩
      have HN := Lib.hid (And.intro hnb' hmb')
      have HTA := Lib.hid hta
      have HLT := Lib.hid hlt
      have HQ := Lib.hid hq
      rw [hq] at e5
      clear helt helt0 hta hnb' hmb' ha hlt hi hq hp
      go_upto_region 4 with fail
      have HX2 := Lib.hid (TBox.new (ts := ts') wr (k := k') (b := b') (v := v') (sl := .slice A' q c') HN.out.1 HN.out.2)
      have hb3 : Below wr.heap.size wr (wr.alloc (.cells #[.int .i64 k', .string nb', .string mb', .int .u64 b', .int .i64 v', .slice A' q c'] 25)) := (Below.refl _ _).alloc (Nat.le_refl _) _
      have HB3 := Lib.hid (HI.out.2.trans (hb3.mono HI.out.2.size))
      have HCl := Lib.hid (Check_any (HTA.out.to hb3 hb3.size) (HU.out.below HB3.out))
      rw [valT_mk HN.out.1 HN.out.2, HQ.out] at HCl
      obtain ⟨R1, hR1⟩ : ∃ R1, checkP (.mk k' n' m' b' v' ts') = R1 := ⟨_, rfl⟩
      rw [hR1] at HCl HD
      clear hR1 hb3
      generalize wr.alloc (.cells #[.int .i64 k', .string nb', .string mb', .int .u64 b', .int .i64 v', .slice A' q c'] 25) = W2 at *
      generalize wr.heap.size = gB at *
      obtain ⟨y0, y1, y2, y3, y4, y5⟩ := HX2.out.cells HN.out.1 HN.out.2
      clear e0 e1 e2 e3 e4 e5
      by_cases h1 : R1 = 0
      · subst h1
        have HE := Lib.hid (HD.out.2 rfl)
        go_wp2_with (go_at_call 56; (with_reducible refine HCl.out.mono ?_); rintro e w' ⟨rfl, hb4⟩; have HB4 := Lib.hid (HB3.out.trans (hb4.mono HB3.out.size)); clear hb4)
        go_roundw
        case rel => exact ⟨i + 1, rfl, HLT.out, Lib.hid ⟨HE.out, HB4.out⟩⟩
        case measure =>
          have := HLT.out
          show ((n : Int) - ((i : Int) + 1)).toNat < ((n : Int) - (i : Int)).toNat
          omega
      · have h1b : (R1 != 0) = true := by simpa using h1
        have HE := Lib.hid (HD.out.1 h1)
        have H1 := Lib.hid h1
        clear h1
        go_wp2_with (go_at_call 56; (with_reducible refine HCl.out.mono ?_); rintro e w' ⟨rfl, hb4⟩; have HB4 := Lib.hid (HB3.out.trans (hb4.mono HB3.out.size)); clear hb4)
        have h1 := H1.out
        go_ret
        exact ⟨by rw [← HE.out, errV, if_neg h1]; rfl, HB4.out⟩
    · have ei : i = n := by omega
      subst ei
      have HE := Lib.hid (show (0 : Int) = R ∧ Below w.heap.size w wr from by
        have h9 := HI.out
        rw [List.drop_of_length_le (by rw [HL.out]; exact Nat.le_refl _)] at h9
        exact h9)
      clear hlt hi
      go_wp2
      go_ret
      exact ⟨by rw [← HE.out.1]; rfl, HE.out.2⟩
end Go.Proofs.YtgfeainpeplphaaDoor
