import Derived.Test.YtggdmhkdmkldoaaBi
namespace Go.Proofs.Ytggdmhkdmkldoaa
open Go.RowKit Hb

theorem three_boxes {w W w2 : World} {C t : Nat} {x y u v p q : Value} (hd : Dr (((w.alloc (.cells #[x, y] t)).alloc (.cells #[u, v] t)).alloc (.cells #[p, q] t)) W) (hb : Below C W w2) (hC : w.heap.size + 3 ≤ C) :
    (w2.cell? ⟨w.heap.size, 0, none⟩ = some x ∧ w2.cell? ⟨w.heap.size, 1, none⟩ = some y) ∧ (w2.cell? ⟨w.heap.size + 1, 0, none⟩ = some u ∧ w2.cell? ⟨w.heap.size + 1, 1, none⟩ = some v) ∧
    (w2.cell? ⟨w.heap.size + 1 + 1, 0, none⟩ = some p ∧ w2.cell? ⟨w.heap.size + 1 + 1, 1, none⟩ = some q ∧ w2.frozen? ⟨w.heap.size + 1 + 1, 0, none⟩ = false ∧ w2.frozen? ⟨w.heap.size + 1 + 1, 1, none⟩ = false) := by
  have h1 := two_cells (g := w.heap.size) hb (by rw [hd.heap, Below.heap_alloc _ _ _ (by simp; omega)]; exact heap_first2 w _ _) (by omega)
  have h2 := two_cells (g := w.heap.size + 1) hb (by rw [hd.heap, Below.heap_alloc _ _ _ (by simp)]; exact heap_second w _ _) (by omega)
  have h3 := two_cells (g := w.heap.size + 1 + 1) hb (by rw [hd.heap]; exact heap_third w _ _ _) (by omega)
  exact ⟨⟨h1.1, h1.2.1⟩, ⟨h2.1, h2.2.1⟩, h3⟩

theorem far2 {w2 : World} {g : Nat} {q : Addr} {u u' v : Value} (h : w2.cell? q = some v) (hne : q.block ≠ g) : ((w2.setCell ⟨g, 0, none⟩ u).setCell ⟨g, 1, none⟩ u').cell? q = some v := by
  rw [World.cell?_setCell_other _ _ _ _ (fun e => hne (by rw [← e])), World.cell?_setCell_other _ _ _ _ (fun e => hne (by rw [← e])), h]

def CmpV (v : Int) (w : World) (e : Ending) (w' : World) : Prop := e = .returned (.int .i64 v) ∧ Dr w w'
theorem cmp_v {B B' : Nat} {A A' : Option Addr} {l m : List Nat} {n c n' c' : Nat} {w : World} (hs : SlU w B A n c l) (ht : SlU w B' A' n' c' m) {v : Int} (hv : cmpN (nv W l) (nv W m) = v) :
    Calls Try.prog 82 #[.slice A n c, .slice A' n' c'] w (CmpV v w) := by
  subst hv; exact cmp_any hs ht
theorem sum_same (na : Bool) {l m out : List Nat} (h : nv W out = nv W (tr l) + nv W (tr m)) : ival na out = ival na l + ival na m := by
  rw [nv_tr, nv_tr] at h
  cases na <;> simp [ival, h] <;> omega
theorem sum_lt {na nb : Bool} (hab : na ≠ nb) {l m out : List Nat} (h : nv W out = nv W (tr m) - nv W (tr l)) (hle : nv W l < nv W m) : ival nb out = ival na l + ival nb m := by
  rw [nv_tr, nv_tr] at h
  cases na <;> cases nb <;> simp [ival, h] at hab ⊢ <;> omega
theorem sum_ge {na nb : Bool} (hab : na ≠ nb) {l m out : List Nat} (h : nv W out = nv W (tr l) - nv W (tr m)) (hle : nv W m ≤ nv W l) : ival na out = ival na l + ival nb m := by
  rw [nv_tr, nv_tr] at h
  cases na <;> cases nb <;> simp [ival, h] at hab ⊢ <;> omega

attribute [local go_sem ↓] Go.wp_at_zero Go.wp_at_succ
set_option maxHeartbeats 1000000 in
theorem sum_eqsign (na : Bool) {B B' : Nat} {A A' : Option Addr} {l m : List Nat} {n c n' c' : Nat} {w : World} (hs : SlU w B A n c l) (ht : SlU w B' A' n' c' m) (hn : n ≤ 67108864) (hn' : n' ≤ 67108864) (hB : B ≤ w.heap.size) (hB' : B' ≤ w.heap.size) :
    Calls Try.prog 72 #[.agg #[.bool na, .slice A n c], .agg #[.bool na, .slice A' n' c']] w (PostI w (ival na l + ival na m)) := by
  have hl1 := tlen_le l
  have hl2 := tlen_le m
  have hl3 := hs.len
  have hl4 := ht.len
  have H1 := Lib.hid (fun w1 (hb : Below w.heap.size w w1) => trim_any (hs.below (C := w.heap.size) hb hB))
  have H2 := Lib.hid (fun w1 (hb : Below w.heap.size w w1) => trim_any (ht.below (C := w.heap.size) hb hB'))
  have HA := Lib.hid (fun w1 (hb : Below w.heap.size w w1) => add_any (hs.tr.below (C := w.heap.size) hb hB) (ht.tr.below (C := w.heap.size) hb hB') (by omega) (by omega) (Nat.le_trans hB hb.size) (Nat.le_trans hB' hb.size))
  have HW := Lib.hid ((((Below.refl w.heap.size w).alloc (Nat.le_refl _) (.cells #[.bool na, .slice A n c] 24)).alloc (by simp) (.cells #[.bool na, .slice A' n' c'] 24)).alloc (by simp; omega) (.cells #[.bool false, .slice none 0 0] 24))
  have HK := Lib.hid (fun C W w2 (hd : Dr (((w.alloc (.cells #[.bool na, .slice A n c] 24)).alloc (.cells #[.bool na, .slice A' n' c'] 24)).alloc (.cells #[.bool false, .slice none 0 0] 24)) W) (hb : Below C W w2) hC => three_boxes hd hb hC)
  have HD := Lib.hid (Dr.refl (((w.alloc (.cells #[.bool na, .slice A n c] 24)).alloc (.cells #[.bool na, .slice A' n' c'] 24)).alloc (.cells #[.bool false, .slice none 0 0] 24)))
  clear hs ht hn hn' hB hB' hl1 hl2 hl3 hl4
  go_enter Try.func72, Try.ntmps72
  go_wp2_with fail
  go_quiet ((go_at_call 80; first | (with_reducible exact quiet_left (H1.out _ (belowN HW.out _))) | (with_reducible exact quiet_left (H2.out _ (belowN HW.out _)))))
  go_wp2_with fail
  go_region_held3 (fun w' => w'.cell? ⟨w.heap.size, 0, none⟩ = some (.bool na))
    (first | go_keep | exact far2 (by assumption) (by first | omega | (simp; omega) | simp) | exact (HK.out _ _ _ ((HD.out.more _).drew) (hb1.trans (hb2.mono hb1.size)) (by simp)).1.1 | exact (HK.out _ _ _ ((HD.out.more _).drew) hb1 (by simp)).1.1)
    (first
      | (go_at_call 102; (with_reducible refine (HA.out _ ?_).mono ?_); exact (belowN HW.out _).drew; rintro e w1 ⟨out, A1, n1, c1, rfl, ho1, hl1, hd1, hv1, _, hb1⟩)
      | (go_at_call 71; (with_reducible refine (laid_own na ho1 hl1 hd1 (sum_same na hv1)).mono ?_); rintro e w2 ⟨v, rfl, ⟨A2, c2, rfl, ho2⟩, hb2⟩; obtain ⟨r0, r1, r2, r3⟩ := (HK.out _ _ _ ((HD.out.more _).drew) (hb1.trans (hb2.mono hb1.size)) (by simp)).2.2))
  go_wp2
  have hr := ResI.stored (w := w) (g := w.heap.size + 1 + 1) (u := .bool (decide (ival na l + ival na m < 0))) (u' := .slice A2 (digs W (ival na l + ival na m).natAbs).length c2) ⟨A2, c2, rfl, ho2⟩
    ((belowN HW.out _).drew.trans ((hb1.trans (hb2.mono hb1.size)).mono (B' := w.heap.size) (by simp; omega))) (by simp) (by omega)
  exact bodyPost_ret (v := .agg #[.bool (decide (ival na l + ival na m < 0)), .slice A2 (digs W (ival na l + ival na m).natAbs).length c2]) (by simp [results, Try.results72, go_sem, r0, r1]) rfl ⟨_, rfl, hr.1, hr.2⟩

set_option maxHeartbeats 1000000 in
theorem sum_ltsign (na nb : Bool) (hab : na ≠ nb) {B B' : Nat} {A A' : Option Addr} {l m : List Nat} {n c n' c' : Nat} {w : World} (hs : SlU w B A n c l) (ht : SlU w B' A' n' c' m) (_hn : n ≤ 67108864) (hn' : n' ≤ 67108864) (hB : B ≤ w.heap.size) (hB' : B' ≤ w.heap.size) (hv : nv W l < nv W m) :
    Calls Try.prog 72 #[.agg #[.bool na, .slice A n c], .agg #[.bool nb, .slice A' n' c']] w (PostI w (ival na l + ival nb m)) := by
  have hl1 := tlen_le l
  have hl2 := tlen_le m
  have hl3 := hs.len
  have hl4 := ht.len
  have hcmp : tlen l ≤ tlen m := by
    rcases Nat.lt_or_ge (tlen m) (tlen l) with h | h
    · have := nv_lt_of_len (b := W) (by decide) ht.dig.tr (tr_nrm l) (by rw [tr_length, tr_length]; exact h)
      rw [nv_tr, nv_tr] at this
      omega
    · exact h
  have H1 := Lib.hid (fun w1 (hb : Below w.heap.size w w1) => trim_any (hs.below (C := w.heap.size) hb hB))
  have H2 := Lib.hid (fun w1 (hb : Below w.heap.size w w1) => trim_any (ht.below (C := w.heap.size) hb hB'))
  have HC := Lib.hid (fun w1 (hb : Below w.heap.size w w1) => cmp_v (hs.tr.below (C := w.heap.size) hb hB) (ht.tr.below (C := w.heap.size) hb hB') (v := cmpN (nv W l) (nv W m)) (by rw [nv_tr, nv_tr]))
  have HA := Lib.hid (fun w1 (hb : Below w.heap.size w w1) => sub_any (ht.tr.below (C := w.heap.size) hb hB') (hs.tr.below (C := w.heap.size) hb hB) (by omega) (Nat.le_trans hB' hb.size) (Nat.le_trans hB hb.size) hcmp (by rw [nv_tr, nv_tr]; omega))
  have HW := Lib.hid ((((Below.refl w.heap.size w).alloc (Nat.le_refl _) (.cells #[.bool na, .slice A n c] 24)).alloc (by simp) (.cells #[.bool nb, .slice A' n' c'] 24)).alloc (by simp; omega) (.cells #[.bool false, .slice none 0 0] 24))
  have HK := Lib.hid (fun C W w2 (hd : Dr (((w.alloc (.cells #[.bool na, .slice A n c] 24)).alloc (.cells #[.bool nb, .slice A' n' c'] 24)).alloc (.cells #[.bool false, .slice none 0 0] 24)) W) (hb : Below C W w2) hC => three_boxes hd hb hC)
  have HD := Lib.hid (Dr.refl (((w.alloc (.cells #[.bool na, .slice A n c] 24)).alloc (.cells #[.bool nb, .slice A' n' c'] 24)).alloc (.cells #[.bool false, .slice none 0 0] 24)))
  have hne : (na == nb) = false := beq_eq_false_iff_ne.2 hab
  have hk : decide (cmpN (nv W l) (nv W m) < 0) = true := decide_eq_true (by rw [cmpN_lt hv]; decide)
  generalize cmpN (nv W l) (nv W m) = cv at *
  have HV := Lib.hid (fun out (hv1 : nv W out = nv W (tr m) - nv W (tr l)) => sum_lt hab hv1 hv)
  generalize hz : ival na l + ival nb m = Z at *
  clear hs ht _hn hn' hB hB' hl1 hl2 hl3 hl4 hv hcmp hab hz
  go_enter Try.func72, Try.ntmps72
  go_wp2_with fail
  go_quiet ((go_at_call 80; first | (with_reducible exact quiet_left (H1.out _ (belowN HW.out _))) | (with_reducible exact quiet_left (H2.out _ (belowN HW.out _)))))
  have HC2 := Lib.hid (HC.out _ (belowN HW.out nq))
  have S0 := (HK.out _ _ _ (HD.out.more nq) (Below.refl (w.heap.size + 3) _) (Nat.le_refl _))
  have HS := Lib.hid S0
  have e1 := S0.1.1
  have e2 := S0.2.1.1
  clear S0
  go_wp2_with fail
  refine (HC2.out).mono ?_
  rintro ex w3 ⟨rfl, hdr⟩
  have HD3 := Lib.hid ((HD.out.more nq).trans hdr)
  have HB3 := Lib.hid ((belowN HW.out nq).trans (hdr.below _))
  have hsz : w3.heap.size = w.heap.size + 1 + 1 + 1 := by rw [HD3.out.heap]; simp
  have e1 := (hdr.cell _).trans e1
  have e2 := (hdr.cell _).trans e2
  clear hdr HC2 HS
  go_wp2_with fail
  have HZ := Lib.hid hsz
  clear hsz
  go_region_held3 (fun w' => w'.cell? ⟨w.heap.size + 1, 0, none⟩ = some (.bool nb))
    (first | go_keep | exact far2 (by assumption) (by first | omega | (simp; omega) | simp) | exact (HK.out _ _ _ (HD3.out.drew) (hb1.trans (hb2.mono hb1.size)) (by have := HZ.out; simp; omega)).2.1.1 | exact (HK.out _ _ _ (HD3.out.drew) hb1 (by have := HZ.out; simp; omega)).2.1.1)
    (first
      | (go_at_call 103; (with_reducible refine (HA.out _ ?_).mono ?_); exact HB3.out.drew; rintro e w1 ⟨out, A1, n1, c1, rfl, ho1, hl1, hd1, hv1, _, hb1⟩)
      | (go_at_call 71; (with_reducible refine (laid_own nb ho1 hl1 hd1 (HV.out _ hv1)).mono ?_); rintro e w2 ⟨v, rfl, ⟨A2, c2, rfl, ho2⟩, hb2⟩; obtain ⟨r0, r1, r2, r3⟩ := (HK.out _ _ _ (HD3.out.drew) (hb1.trans (hb2.mono hb1.size)) (by have := HZ.out; simp; omega)).2.2))
  go_wp2
  have hr := ResI.stored (w := w) (g := w.heap.size + 1 + 1) (u := .bool (decide (Z < 0))) (u' := .slice A2 (digs W (Z).natAbs).length c2) ⟨A2, c2, rfl, ho2⟩
    (HB3.out.drew.trans ((hb1.trans (hb2.mono hb1.size)).mono (B' := w.heap.size) (by have := HZ.out; simp; omega))) (by have := HZ.out; simp; omega) (by omega)
  exact bodyPost_ret (v := .agg #[.bool (decide (Z < 0)), .slice A2 (digs W (Z).natAbs).length c2]) (by simp [results, Try.results72, go_sem, r0, r1]) rfl ⟨_, rfl, hr.1, hr.2⟩

set_option maxHeartbeats 1000000 in
theorem sum_gesign (na nb : Bool) (hab : na ≠ nb) {B B' : Nat} {A A' : Option Addr} {l m : List Nat} {n c n' c' : Nat} {w : World} (hs : SlU w B A n c l) (ht : SlU w B' A' n' c' m) (hn : n ≤ 67108864) (_hn' : n' ≤ 67108864) (hB : B ≤ w.heap.size) (hB' : B' ≤ w.heap.size) (hv : nv W m ≤ nv W l) :
    Calls Try.prog 72 #[.agg #[.bool na, .slice A n c], .agg #[.bool nb, .slice A' n' c']] w (PostI w (ival na l + ival nb m)) := by
  have hl1 := tlen_le l
  have hl2 := tlen_le m
  have hl3 := hs.len
  have hl4 := ht.len
  have hcmp : tlen m ≤ tlen l := by
    rcases Nat.lt_or_ge (tlen l) (tlen m) with h | h
    · have := nv_lt_of_len (b := W) (by decide) hs.dig.tr (tr_nrm m) (by rw [tr_length, tr_length]; exact h)
      rw [nv_tr, nv_tr] at this
      omega
    · exact h
  have H1 := Lib.hid (fun w1 (hb : Below w.heap.size w w1) => trim_any (hs.below (C := w.heap.size) hb hB))
  have H2 := Lib.hid (fun w1 (hb : Below w.heap.size w w1) => trim_any (ht.below (C := w.heap.size) hb hB'))
  have HC := Lib.hid (fun w1 (hb : Below w.heap.size w w1) => cmp_v (hs.tr.below (C := w.heap.size) hb hB) (ht.tr.below (C := w.heap.size) hb hB') (v := cmpN (nv W l) (nv W m)) (by rw [nv_tr, nv_tr]))
  have HA := Lib.hid (fun w1 (hb : Below w.heap.size w w1) => sub_any (hs.tr.below (C := w.heap.size) hb hB) (ht.tr.below (C := w.heap.size) hb hB') (by omega) (Nat.le_trans hB hb.size) (Nat.le_trans hB' hb.size) hcmp (by rw [nv_tr, nv_tr]; omega))
  have HW := Lib.hid ((((Below.refl w.heap.size w).alloc (Nat.le_refl _) (.cells #[.bool na, .slice A n c] 24)).alloc (by simp) (.cells #[.bool nb, .slice A' n' c'] 24)).alloc (by simp; omega) (.cells #[.bool false, .slice none 0 0] 24))
  have HK := Lib.hid (fun C W w2 (hd : Dr (((w.alloc (.cells #[.bool na, .slice A n c] 24)).alloc (.cells #[.bool nb, .slice A' n' c'] 24)).alloc (.cells #[.bool false, .slice none 0 0] 24)) W) (hb : Below C W w2) hC => three_boxes hd hb hC)
  have HD := Lib.hid (Dr.refl (((w.alloc (.cells #[.bool na, .slice A n c] 24)).alloc (.cells #[.bool nb, .slice A' n' c'] 24)).alloc (.cells #[.bool false, .slice none 0 0] 24)))
  have hne : (na == nb) = false := beq_eq_false_iff_ne.2 hab
  have hk : decide (cmpN (nv W l) (nv W m) < 0) = false := decide_eq_false (by unfold cmpN; split <;> (try split) <;> omega)
  generalize cmpN (nv W l) (nv W m) = cv at *
  have HV := Lib.hid (fun out (hv1 : nv W out = nv W (tr l) - nv W (tr m)) => sum_ge hab hv1 hv)
  generalize hz : ival na l + ival nb m = Z at *
  clear hs ht hn _hn' hB hB' hl1 hl2 hl3 hl4 hv hcmp hab hz
  go_enter Try.func72, Try.ntmps72
  go_wp2_with fail
  go_quiet ((go_at_call 80; first | (with_reducible exact quiet_left (H1.out _ (belowN HW.out _))) | (with_reducible exact quiet_left (H2.out _ (belowN HW.out _)))))
  have HC2 := Lib.hid (HC.out _ (belowN HW.out nq))
  have S0 := (HK.out _ _ _ (HD.out.more nq) (Below.refl (w.heap.size + 3) _) (Nat.le_refl _))
  have HS := Lib.hid S0
  have e1 := S0.1.1
  have e2 := S0.2.1.1
  clear S0
  go_wp2_with fail
  refine (HC2.out).mono ?_
  rintro ex w3 ⟨rfl, hdr⟩
  have HD3 := Lib.hid ((HD.out.more nq).trans hdr)
  have HB3 := Lib.hid ((belowN HW.out nq).trans (hdr.below _))
  have hsz : w3.heap.size = w.heap.size + 1 + 1 + 1 := by rw [HD3.out.heap]; simp
  have e1 := (hdr.cell _).trans e1
  have e2 := (hdr.cell _).trans e2
  clear hdr HC2 HS
  go_wp2_with fail
  have HZ := Lib.hid hsz
  clear hsz
  go_region_held3 (fun w' => w'.cell? ⟨w.heap.size, 0, none⟩ = some (.bool na))
    (first | go_keep | exact far2 (by assumption) (by first | omega | (simp; omega) | simp) | exact (HK.out _ _ _ (HD3.out.drew) (hb1.trans (hb2.mono hb1.size)) (by have := HZ.out; simp; omega)).1.1 | exact (HK.out _ _ _ (HD3.out.drew) hb1 (by have := HZ.out; simp; omega)).1.1)
    (first
      | (go_at_call 103; (with_reducible refine (HA.out _ ?_).mono ?_); exact HB3.out.drew; rintro e w1 ⟨out, A1, n1, c1, rfl, ho1, hl1, hd1, hv1, _, hb1⟩)
      | (go_at_call 71; (with_reducible refine (laid_own na ho1 hl1 hd1 (HV.out _ hv1)).mono ?_); rintro e w2 ⟨v, rfl, ⟨A2, c2, rfl, ho2⟩, hb2⟩; obtain ⟨r0, r1, r2, r3⟩ := (HK.out _ _ _ (HD3.out.drew) (hb1.trans (hb2.mono hb1.size)) (by have := HZ.out; simp; omega)).2.2))
  go_wp2
  have hr := ResI.stored (w := w) (g := w.heap.size + 1 + 1) (u := .bool (decide (Z < 0))) (u' := .slice A2 (digs W (Z).natAbs).length c2) ⟨A2, c2, rfl, ho2⟩
    (HB3.out.drew.trans ((hb1.trans (hb2.mono hb1.size)).mono (B' := w.heap.size) (by have := HZ.out; simp; omega))) (by have := HZ.out; simp; omega) (by omega)
  exact bodyPost_ret (v := .agg #[.bool (decide (Z < 0)), .slice A2 (digs W (Z).natAbs).length c2]) (by simp [results, Try.results72, go_sem, r0, r1]) rfl ⟨_, rfl, hr.1, hr.2⟩

theorem sum_any (na nb : Bool) {B B' : Nat} {A A' : Option Addr} {l m : List Nat} {n c n' c' : Nat} {w : World} (hs : SlU w B A n c l) (ht : SlU w B' A' n' c' m) (hn : n ≤ 67108864) (hn' : n' ≤ 67108864) (hB : B ≤ w.heap.size) (hB' : B' ≤ w.heap.size) :
    Calls Try.prog 72 #[.agg #[.bool na, .slice A n c], .agg #[.bool nb, .slice A' n' c']] w (PostI w (ival na l + ival nb m)) := by
  by_cases h : na = nb
  · subst h; exact sum_eqsign na hs ht hn hn' hB hB'
  · rcases Nat.lt_or_ge (nv W l) (nv W m) with h2 | h2
    · exact sum_ltsign na nb h hs ht hn hn' hB hB' h2
    · exact sum_gesign na nb h hs ht hn hn' hB hB' h2
end Go.Proofs.Ytggdmhkdmkldoaa
