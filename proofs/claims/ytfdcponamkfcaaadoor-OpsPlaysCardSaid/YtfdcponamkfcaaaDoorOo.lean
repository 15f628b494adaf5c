import Derived.Test.YtfdcponamkfcaaaDoorOn
namespace Go.Proofs.YtfdcponamkfcaaaDoor
open Go.RowKit Ho Go.Maps
set_option linter.unusedVariables false
set_option linter.unusedSimpArgs false

def NewPost (w : World) (e : Ending) (w' : World) : Prop :=
  e = .returned (.pointer (some ⟨w.heap.size, 0, none⟩)) ∧ TabAt w' w.heap.size (w.heap.size + 1) (w.heap.size + 1 + 1) (w.heap.size + 1 + 1 + 1) (rowsO 14).length (putAll (rowsO 14)) ∧ Below w.heap.size w w'
set_option maxRecDepth 100000 in
set_option maxHeartbeats 8000000 in
theorem New_any {w : World} (hT : Tab w) (h2 : 2 ≤ w.heap.size) : Calls Tryd.prog 23 #[] w (NewPost w) := by
  have hmm := @run_makeMap Tryd.prog
  have HT := Lib.hid (fun w1 (hb : Below w.heap.size w w1) => hT.below hb h2)
  have HR0 := new_start w #[.int .i64 1200, .int .i64 3, .string ⟨#[58, 45, 32, 45, 45, 62]⟩, .int .i64 1200, .int .i64 1, .string ⟨#[58, 45, 32, 63, 45]⟩, .int .i64 1100, .int .i64 4, .string ⟨#[59, 32, 124]⟩, .int .i64 1050, .int .i64 4, .string ⟨#[45, 62]⟩, .int .i64 1000, .int .i64 4, .string ⟨#[44]⟩, .int .i64 900, .int .i64 2, .string ⟨#[92, 43]⟩, .int .i64 760, .int .i64 5, .string ⟨#[35, 60, 61, 61, 62]⟩, .int .i64 700, .int .i64 3, .string ⟨#[61, 32, 92, 61, 32, 61, 61, 32, 92, 61, 61, 32, 64, 60, 32, 64, 61, 60, 32, 64, 62, 32, 64, 62, 61, 32, 61, 46, 46, 32, 105, 115, 32, 61, 58, 61, 32, 61, 92, 61, 32, 60, 32, 61, 60, 32, 62, 32, 62, 61, 32, 105, 110, 32, 105, 110, 115, 32, 35, 61, 32, 35, 92, 61, 32, 35, 60, 32, 35, 61, 60, 32, 35, 62, 32, 35, 62, 61]⟩, .int .i64 500, .int .i64 5, .string ⟨#[43, 32, 45, 32, 47, 92, 32, 92, 47]⟩, .int .i64 450, .int .i64 3, .string ⟨#[46, 46]⟩, .int .i64 400, .int .i64 5, .string ⟨#[42, 32, 47, 32, 47, 47, 32, 114, 101, 109, 32, 109, 111, 100, 32, 100, 105, 118, 32, 60, 60, 32, 62, 62, 32, 120, 111, 114]⟩, .int .i64 200, .int .i64 3, .string ⟨#[42, 42]⟩, .int .i64 200, .int .i64 4, .string ⟨#[94, 32, 58]⟩, .int .i64 200, .int .i64 2, .string ⟨#[45, 32, 43, 32, 92]⟩]
  have HC := row_cell0
  unfold rowCells at HC
  clear hT h2
  go_enter Tryd.func23, Tryd.ntmps23
  go_wp2
  refine wp_loop_rounds 4 ?_
  rw [rounds_succ]
  go_wp2
  rw [rounds_succ]
  go_wp2
  rw [rounds_succ]
  go_wp2
  rw [rounds_succ]
  go_wp2
  generalize ((#[.int .i64 1200, .int .i64 3, .string ⟨#[58, 45, 32, 45, 45, 62]⟩, .int .i64 1200, .int .i64 1, .string ⟨#[58, 45, 32, 63, 45]⟩, .int .i64 1100, .int .i64 4, .string ⟨#[59, 32, 124]⟩, .int .i64 1050, .int .i64 4, .string ⟨#[45, 62]⟩, .int .i64 1000, .int .i64 4, .string ⟨#[44]⟩, .int .i64 900, .int .i64 2, .string ⟨#[92, 43]⟩, .int .i64 760, .int .i64 5, .string ⟨#[35, 60, 61, 61, 62]⟩, .int .i64 700, .int .i64 3, .string ⟨#[61, 32, 92, 61, 32, 61, 61, 32, 92, 61, 61, 32, 64, 60, 32, 64, 61, 60, 32, 64, 62, 32, 64, 62, 61, 32, 61, 46, 46, 32, 105, 115, 32, 61, 58, 61, 32, 61, 92, 61, 32, 60, 32, 61, 60, 32, 62, 32, 62, 61, 32, 105, 110, 32, 105, 110, 115, 32, 35, 61, 32, 35, 92, 61, 32, 35, 60, 32, 35, 61, 60, 32, 35, 62, 32, 35, 62, 61]⟩, .int .i64 500, .int .i64 5, .string ⟨#[43, 32, 45, 32, 47, 92, 32, 92, 47]⟩, .int .i64 450, .int .i64 3, .string ⟨#[46, 46]⟩, .int .i64 400, .int .i64 5, .string ⟨#[42, 32, 47, 32, 47, 47, 32, 114, 101, 109, 32, 109, 111, 100, 32, 100, 105, 118, 32, 60, 60, 32, 62, 62, 32, 120, 111, 114]⟩, .int .i64 200, .int .i64 3, .string ⟨#[42, 42]⟩, .int .i64 200, .int .i64 4, .string ⟨#[94, 32, 58]⟩, .int .i64 200, .int .i64 2, .string ⟨#[45, 32, 43, 32, 92]⟩] : Array Value)) = cs at *
  have HCs := Lib.hid HC
  have HR1 := Lib.hid HR0
  clear HC HR0
  generalize ((((w.alloc (.cells #[.map (some (w.heap.size + 1)), .map (some (w.heap.size + 1 + 1)), .map (some (w.heap.size + 1 + 1 + 1))] 65)).alloc (.map #[] 0)).alloc (.map #[] 0)).alloc (.map #[] 0)).alloc (.cells cs 74) = W5 at *
  have hSz := (Array.getElem?_eq_some_iff.1 HR1.out.2.1).1
  go_loopw [35] (fun iv wr => ∃ i : Nat, i ≤ 14 ∧ iv = .int .i64 (i : Int) ∧ NewRel w w.heap.size (w.heap.size + 1) (w.heap.size + 1 + 1) (w.heap.size + 1 + 1 + 1) (w.heap.size + 1 + 1 + 1 + 1) cs (rowsO i) wr) (fun iv _ => 14 - (intOf iv).toNat)
  case atStart => exact ⟨0, by omega, rfl, HR1.out⟩
  case round =>
    obtain ⟨i, hi, rfl, hr⟩ := hrel
    have HR := Lib.hid hr
    clear hr HR1 hSz
    have hi0 : (0 : Int) ≤ (i : Int) := by omega
    by_cases hlt : i < 14
    · have hltI : (i : Int) < 14 := by omega
      obtain ⟨c0, c1, c2⟩ := HCs.out i hlt
      have q0 := cell_of_row wr (w.heap.size + 1 + 1 + 1 + 1) (i * 3) _ _ (0, 0) HR.out.2.1
      have q1 := cell_of_row wr (w.heap.size + 1 + 1 + 1 + 1) (i * 3 + 1) _ _ (0, 0) HR.out.2.1
      have q2 := cell_of_row wr (w.heap.size + 1 + 1 + 1 + 1) (i * 3 + 2) _ _ (0, 0) HR.out.2.1
      rw [c0] at q0
      rw [c1] at q1
      rw [c2] at q2
      have HF := Lib.hid (row_ascii i hlt)
      have HK := Lib.hid (row_cls i hlt)
      obtain ⟨P, hP⟩ : ∃ P, rowP i = P := ⟨_, rfl⟩
      obtain ⟨K, hK⟩ : ∃ P, rowK i = P := ⟨_, rfl⟩
      obtain ⟨T, hT⟩ : ∃ P, rowT i = P := ⟨_, rfl⟩
      rw [hP] at q0
      rw [hK] at q1
      rw [hT] at q2
      have HPK := Lib.hid (And.intro hP (And.intro hK hT))
      clear c0 c1 c2 hP hK hT hlt
      have hbV : Below wr.heap.size wr (wr.alloc (.cells #[.int .i64 P, .int .i64 K, .string T] 74)) := (Below.refl _ _).alloc (Nat.le_refl _) _
      have hxR := heap_alloc_new wr (.cells #[.int .i64 P, .int .i64 K, .string T] 74)
      have HRV := Lib.hid (HR.out.below hbV)
      have HxR := Lib.hid hxR
      have hzV : (wr.alloc (.cells #[.int .i64 P, .int .i64 K, .string T] 74)).heap.size = wr.heap.size + 1 := by simp
      have HzV := Lib.hid hzV
      clear hbV hxR hzV
      go_wp2_with fail
      clear q0 q1 q2
      generalize wr.alloc (.cells #[.int .i64 P, .int .i64 K, .string T] 74) = V at *
      have hfl := Tryd.strings_Fields T V (by have h9 := HF.out.1; rw [HPK.out.2.2] at h9; omega) (fun j b hj => by
        have hm : b ∈ T.data.toList := List.mem_of_getElem? hj
        have h9 := HF.out.2.1
        rw [HPK.out.2.2] at h9
        exact h9 b hm) (HT.out V HRV.out.2.2)
      obtain ⟨nl, hnl⟩ : ∃ nl, Lib.fields T.data.toList = nl := ⟨_, rfl⟩
      rw [hnl] at hfl
      obtain ⟨n, hn⟩ : ∃ n, nl.length = n := ⟨_, rfl⟩
      have HN := Lib.hid (And.intro hnl hn)
      have hn30 : n ≤ 30 := by have h9 := HF.out.2.2.1; unfold rowN at h9; rw [HPK.out.2.2, hnl, hn] at h9; exact h9
      have hnI : (n : Int) ≤ 30 := by omega
      rw [hn] at hfl
      have HFl := Lib.hid hfl
      clear hfl hnl hn hn30
      (with_reducible refine HFl.out.mono ?_)
      rintro ex V2 ⟨rfl, rfl⟩
      have hbW : Below V.heap.size V (V.alloc (.cells (strs nl) 9)) := (Below.refl _ _).alloc (Nat.le_refl _) _
      have hxF : (V.alloc (.cells (strs nl) 9)).heap[wr.heap.size + 1]? = some (.cells (strs nl) 9 (0, 0)) := by rw [← HzV.out]; exact heap_alloc_new V _
      have HRW := Lib.hid (HRV.out.below hbW)
      have HxRW := Lib.hid ((hbW.block wr.heap.size (by have := HzV.out; omega)).trans HxR.out)
      have HxF := Lib.hid hxF
      clear hbW hxF
      go_wp2_with fail
      try rw [HzV.out]
      unfold strs at HRW HxRW HxF
      generalize V.alloc (.cells (nl.map fun l => Value.string ⟨l.toArray⟩).toArray 9) = V2 at *
      have HxS := Lib.hid (show V2.heap[wr.heap.size + 1]? = some (.cells (strs nl) 9 (0, 0)) from HxF.out)
      clear HxF HRV HxR HFl HR HzV
      generalize wr.heap.size = R at *
      go_loopw [43] (fun jv w3 => ∃ j : Nat, j ≤ n ∧ jv = .int .i64 (j : Int) ∧ NewRel w w.heap.size (w.heap.size + 1) (w.heap.size + 1 + 1) (w.heap.size + 1 + 1 + 1) (w.heap.size + 1 + 1 + 1 + 1) cs (rowsO i ++ (rowO i).take j) w3 ∧ w3.heap[R]? = some (.cells #[.int .i64 P, .int .i64 K, .string T] 74 (0, 0)) ∧ w3.heap[R + 1]? = some (.cells (strs nl) 9 (0, 0))) (fun jv _ => n - (intOf jv).toNat)
      case atStart => exact ⟨0, Nat.zero_le _, rfl, by rw [List.take_zero, List.append_nil]; exact HRW.out, HxRW.out, HxS.out⟩
      case round =>
        obtain ⟨j, hj, rfl, hr3, hR3, hF3⟩ := hrel
        have HR3 := Lib.hid hr3
        have HRr := Lib.hid hR3
        have HRf := Lib.hid hF3
        clear hr3 hR3 hF3 HRW HxRW HxS
        have hj0 : (0 : Int) ≤ (j : Int) := by omega
        by_cases hjn : j < n
        · have hjI : (j : Int) < (n : Int) := by omega
          have hl := strs_cell HRf.out (k := j) (by have := HN.out.2; omega)
          obtain ⟨y, hy⟩ : ∃ y : ByteArray, (⟨(nl.getD j []).toArray⟩ : ByteArray) = y := ⟨_, rfl⟩
          rw [hy] at hl
          have p0 := cell_of_row wr R 0 _ _ (0, 0) HRr.out
          have p1 := cell_of_row wr R 1 _ _ (0, 0) HRr.out
          have p0' : wr.cell? ⟨R, 0, none⟩ = some (.int .i64 P) := p0
          have p1' : wr.cell? ⟨R, 1, none⟩ = some (.int .i64 K) := p1
          obtain ⟨t0, t1, t2⟩ := tab_cells HR3.out.1.1 (Below.refl _ _)
          obtain ⟨c, hc⟩ : ∃ c, rowC i = c := ⟨_, rfl⟩
          have hk := HK.out
          rw [hc, HPK.out.2.1] at hk
          obtain ⟨hk1, hk2⟩ := hk
          obtain ⟨b, hb⟩ : ∃ b, b = (if c = 0 then w.heap.size + 1 else if c = 1 then w.heap.size + 1 + 1 else w.heap.size + 1 + 1 + 1) := ⟨_, rfl⟩
          have tc : wr.cell? ⟨w.heap.size, c, none⟩ = some (.map (some b)) := by
            have h012 : c = 0 ∨ c = 1 ∨ c = 2 := by omega
            rcases h012 with rfl | rfl | rfl
            · rw [hb]; exact t0
            · rw [hb]; exact t1
            · rw [hb]; exact t2
          have hm : MapOf Tryd.prog 9 wr b (rowsO i ++ (rowO i).take j).length (c + 1) (putAll (rowsO i ++ (rowO i).take j)) := by
            have h012 : c = 0 ∨ c = 1 ∨ c = 2 := by omega
            rcases h012 with rfl | rfl | rfl
            · rw [hb]; exact HR3.out.1.2.1
            · rw [hb]; exact HR3.out.1.2.2.1
            · rw [hb]; exact HR3.out.1.2.2.2.1
          have HM := Lib.hid hm
          have HB := Lib.hid (And.intro hb (And.intro hk1 hk2))
          have HY := Lib.hid hy
          have HCl := Lib.hid (fun w1 => show Calls Tryd.prog 34 #[.int .i64 K] w1 (fun e w' => e = .returned (.int .i64 (c : Int)) ∧ w' = w1) from (class_any K w1).mono fun e w' ⟨he, hw⟩ => ⟨by rw [he, hk1]; simp, hw.symm⟩)
          have hc0 : (0 : Int) ≤ (c : Int) := by omega
          have hc3 : (c : Int) < 3 := by omega
          clear p0 p1 t0 t1 t2 hc hk1 hk2 hb hm hy
          go_wp2_with fail
          refine wp_region_still_tail 15 (by kernel_rfl) (by kernel_rfl) ?_
          simp only [List.take_succ_cons, List.take_zero, List.drop_succ_cons, List.drop_zero]
          still_step
          still_step
          still_step
          still_call (HCl.out _)
          repeat still_step
          try refine wpStill_nil ?_
          change wpList _ _ _ _ _ wr.drew
          have HMd := Lib.hid (HM.out.below ((Below.refl wr.heap.size wr).drew) HM.out.lt)
          have HSz := Lib.hid (show y.size ≤ maxLen by
            have h9 : nl.getD j [] ∈ nl := by
              rw [List.getD_eq_getElem?_getD, List.getElem?_eq_getElem (by have := HN.out.2; omega)]
              exact List.getElem_mem _
            have h8 := HF.out.2.2.2 _ (by unfold rowN; rw [HPK.out.2.2, HN.out.1]; exact h9)
            rw [← HY.out]
            show (nl.getD j []).toArray.size ≤ maxLen
            rw [List.size_toArray]
            unfold maxLen
            omega)
          have HLen := Lib.hid (show (rowsO i ++ (rowO i).take j).length < maxLen by
            have h8 := rowsO_length i (by omega)
            have h9 := List.length_take_le j (rowO i)
            rw [List.length_append]
            unfold maxLen
            omega)
          clear hl p0' p1' tc
          go_wp2_with (at_mapUpdate; refine wpList_store_op rfl _ _ _ rfl rfl rfl rfl HMd.out HSz.out HLen.out HB.out.2.1 ?_; intro w2 hm2 hg2)
          have hgr : wr.grownBy w2 (some b) := ⟨hg2.os, hg2.tape, hg2.output, hg2.size, hg2.block⟩
          have HX := Lib.hid (show NewRel w w.heap.size (w.heap.size + 1) (w.heap.size + 1 + 1) (w.heap.size + 1 + 1 + 1) (w.heap.size + 1 + 1 + 1 + 1) cs (rowsO i ++ (rowO i).take (j + 1)) w2 by
            rw [rowO_step (i := i) (nl := nl) (by unfold rowN; rw [HPK.out.2.2, HN.out.1]) (by have := HN.out.2; omega), HPK.out.1, HPK.out.2.1]
            have e9 : y.data.toList = nl.getD j [] := by rw [← HY.out]
            rw [e9] at hm2
            exact HR3.out.step ⟨by omega, by omega, by omega⟩ HB.out.2.2 HB.out.1 HB.out.2.1 hm2 hgr)
          have HXr := Lib.hid (HR3.out.cells HB.out.2.2 HB.out.1 hgr HRr.out)
          have HXf := Lib.hid (HR3.out.cells HB.out.2.2 HB.out.1 hgr HRf.out)
          clear hm2 hg2 hgr
          go_wp2
          go_roundw
          case rel => exact ⟨j + 1, by omega, by go_num, HX.out, HXr.out, HXf.out⟩
          case measure => simp [intOf]; omega
        · obtain rfl : j = n := by omega
          have HX := Lib.hid (show NewRel w w.heap.size (w.heap.size + 1) (w.heap.size + 1 + 1) (w.heap.size + 1 + 1 + 1) (w.heap.size + 1 + 1 + 1 + 1) cs (rowsO (i + 1)) wr by
            rw [← rowO_done (i := i) (nl := nl) (by unfold rowN; rw [HPK.out.2.2, HN.out.1]) HN.out.2]
            exact HR3.out)
          clear hjn
          go_wp2
          go_roundw
          case rel => exact ⟨i + 1, by omega, by go_num, HX.out⟩
          case measure => simp [intOf]; omega
    · obtain rfl : i = 14 := by omega
      clear hlt
      go_wp2
      go_ret
      exact ⟨rfl, HR.out.1, HR.out.2.2⟩
end Go.Proofs.YtfdcponamkfcaaaDoor
