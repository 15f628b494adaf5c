import Derived.Test.YtfdcponamkfcaaaDoorOc
namespace Go.Proofs.YtfdcponamkfcaaaDoor
open Go.RowKit Ho Go.Maps
set_option linter.unusedVariables false
set_option linter.unusedSimpArgs false

theorem add_fin {w w1 w2 : World} {g b1 b2 b3 N : Nat} {L : List OpV} (h : TabAt w g b1 b2 b3 N L) {c : Nat} (hc : c < 3) {b : Nat} (hb : b = (if c = 0 then b1 else if c = 1 then b2 else b3)) {k p : Int} {nm : List UInt8} (hk : cls k = c + 1) (hw : Below w.heap.size w w1)
    (hm : MapOf Tryd.prog 9 w2 b (N + 1) (c + 1) (Ho.put L ⟨nm, k, p⟩)) (hg : w1.grownBy w2 (some b)) : AddPost w g b1 b2 b3 N L (Ho.put L ⟨nm, k, p⟩) 0 (.returned (.int .i64 0)) w2 := by
  refine ⟨rfl, TabAt.turn (h.below hw) hc hb hm hg (fun c' nm' h9 => find_put_other (fun e => h9 (by rw [e.1, hk]))), b, ?_, ?_⟩
  · rw [hb]
    split
    · exact .inl rfl
    · split
      · exact .inr (.inl rfl)
      · exact .inr (.inr rfl)
  · exact ⟨hg.os.trans hw.os, hg.tape.trans hw.tape, hg.output.trans hw.output, Nat.le_trans hw.size hg.size, fun j hj hne => (hg.block j (Nat.lt_of_lt_of_le hj hw.size) hne).trans (hw.block j hj)⟩
set_option maxRecDepth 100000 in
set_option maxHeartbeats 2000000 in
theorem Add_del {w : World} {g b1 b2 b3 N : Nat} {L : List OpV} (h : TabAt w g b1 b2 b3 N L) {p k : Int} {s : ByteArray} (hs : s.size ≤ maxLen) (hN : N < maxLen) {c : Nat} (hc : c < 3) (hk : cls k = c + 1) {b : Nat} (hb9 : b = (if c = 0 then b1 else if c = 1 then b2 else b3)) (hp : p = 0) (h1 : ¬ s.data.toList = [44]) (h2 : ¬ s.data.toList = [124]) (h3 : ¬ s.data.toList = [91, 93]) (h4 : ¬ s.data.toList = [123, 125]) :
    Calls Tryd.prog 17 #[.pointer (some ⟨g, 0, none⟩), .int .i64 p, .int .i64 k, .string s] w (AddPost w g b1 b2 b3 N L (Ho.del L (cls k) s.data.toList) 0) := by
  have HT := Lib.hid h
  have HK := Lib.hid hk
  have HS := Lib.hid (And.intro hs hN)
  have HB9 := Lib.hid (And.intro hb9 hc)
  have HC := Lib.hid (fun w1 => show Calls Tryd.prog 34 #[.int .i64 k] w1 (fun e w' => e = .returned (.int .i64 (c : Int)) ∧ w1 = w') from by have h9 := class_any k w1; rw [hk, show ((c + 1 : Nat) : Int) - 1 = (c : Int) by omega] at h9; exact h9)
  have hc0 : (0 : Int) ≤ (c : Int) := by omega
  have hc3 : (c : Int) < 3 := by omega
  have dn : decide ((c : Int) < 0) = false := decide_eq_false (by omega)
  have r1 : decide (p < 0) = false := decide_eq_false (by omega)
  have r2 : decide (1200 < p) = false := decide_eq_false (by omega)
  have s1 : (s.toList == [44]) = false := by rw [str_beq]; exact decide_eq_false h1
  have s2 : (s.toList == [124]) = false := by rw [str_beq]; exact decide_eq_false h2
  have s3 : (s.toList == [91, 93]) = false := by rw [str_beq]; exact decide_eq_false h3
  have s4 : (s.toList == [123, 125]) = false := by rw [str_beq]; exact decide_eq_false h4
  have d0 : (p == 0) = true := beq_iff_eq.2 hp
  clear h1 h2 h3 h4
  have hmb : MapOf Tryd.prog 9 w b N (c + 1) L := by
    have h012 : c = 0 ∨ c = 1 ∨ c = 2 := by omega
    rcases h012 with rfl | rfl | rfl
    · rw [hb9]; exact h.2.1
    · rw [hb9]; exact h.2.2.1
    · rw [hb9]; exact h.2.2.2.1
  have HM := Lib.hid hmb
  obtain ⟨q0, q1, q2⟩ := tab_cells h.1 (Below.refl _ _)
  have qc : w.cell? ⟨g, c, none⟩ = some (.map (some b)) := by
    have h012 : c = 0 ∨ c = 1 ∨ c = 2 := by omega
    rcases h012 with rfl | rfl | rfl
    · rw [hb9]; exact q0
    · rw [hb9]; exact q1
    · rw [hb9]; exact q2
  clear h hs hN hk hc hb9 hp hmb q0 q1 q2
  go_enter Tryd.func17, Tryd.ntmps17
  go_wp2_with (first
    | (go_at_call 34; refine (HC.out _).mono ?_; rintro e w1 ⟨rfl, rfl⟩)
    | (at_delete; refine wpList_drop_op rfl _ _ rfl rfl rfl HM.out HS.out.1 ?_; intro w2 hm2 hg2))
  have HM2 := Lib.hid hm2
  have HG2 := Lib.hid hg2
  clear hm2 hg2
  go_wp2
  go_ret
  refine ⟨rfl, ?_, b, ?_, HG2.out⟩
  · refine TabAt.turn HT.out HB9.out.2 HB9.out.1 (by rw [HK.out]; exact HM2.out.monoN (Nat.le_succ _)) HG2.out (fun c' nm h9 => find_del_other (fun e => h9 (by rw [e.1, HK.out])))
  · rw [HB9.out.1]
    split
    · exact .inl rfl
    · split
      · exact .inr (.inl rfl)
      · exact .inr (.inr rfl)
set_option maxRecDepth 100000 in
set_option maxHeartbeats 2000000 in
theorem Add_delbar {w : World} {g b1 b2 b3 N : Nat} {L : List OpV} (h : TabAt w g b1 b2 b3 N L) {p k : Int} {s : ByteArray} (hs : s.size ≤ maxLen) (hN : N < maxLen) {c : Nat} (hc : c < 3) (hk : cls k = c + 1) {b : Nat} (hb9 : b = (if c = 0 then b1 else if c = 1 then b2 else b3)) (hp : p = 0) (h1 : ¬ s.data.toList = [44]) (h2 : s.data.toList = [124]) (hb : c = 1 ∧ (p = 0 ∨ 1000 < p)) :
    Calls Tryd.prog 17 #[.pointer (some ⟨g, 0, none⟩), .int .i64 p, .int .i64 k, .string s] w (AddPost w g b1 b2 b3 N L (Ho.del L (cls k) s.data.toList) 0) := by
  have HT := Lib.hid h
  have HK := Lib.hid hk
  have HS := Lib.hid (And.intro hs hN)
  have HB9 := Lib.hid (And.intro hb9 hc)
  have HC := Lib.hid (fun w1 => show Calls Tryd.prog 34 #[.int .i64 k] w1 (fun e w' => e = .returned (.int .i64 (c : Int)) ∧ w1 = w') from by have h9 := class_any k w1; rw [hk, show ((c + 1 : Nat) : Int) - 1 = (c : Int) by omega] at h9; exact h9)
  have hc0 : (0 : Int) ≤ (c : Int) := by omega
  have hc3 : (c : Int) < 3 := by omega
  have dn : decide ((c : Int) < 0) = false := decide_eq_false (by omega)
  have r1 : decide (p < 0) = false := decide_eq_false (by omega)
  have r2 : decide (1200 < p) = false := decide_eq_false (by omega)
  have s1 : (s.toList == [44]) = false := by rw [str_beq]; exact decide_eq_false h1
  have s2 : (s.toList == [124]) = true := by rw [str_beq]; exact decide_eq_true h2
  obtain ⟨hb1, hb2⟩ := hb
  have d1 : ((c : Int) == 1) = true := beq_iff_eq.2 (by omega)
  have d0 : (p == 0) = true := beq_iff_eq.2 hp
  clear h1 h2 hb1 hb2
  have hmb : MapOf Tryd.prog 9 w b N (c + 1) L := by
    have h012 : c = 0 ∨ c = 1 ∨ c = 2 := by omega
    rcases h012 with rfl | rfl | rfl
    · rw [hb9]; exact h.2.1
    · rw [hb9]; exact h.2.2.1
    · rw [hb9]; exact h.2.2.2.1
  have HM := Lib.hid hmb
  obtain ⟨q0, q1, q2⟩ := tab_cells h.1 (Below.refl _ _)
  have qc : w.cell? ⟨g, c, none⟩ = some (.map (some b)) := by
    have h012 : c = 0 ∨ c = 1 ∨ c = 2 := by omega
    rcases h012 with rfl | rfl | rfl
    · rw [hb9]; exact q0
    · rw [hb9]; exact q1
    · rw [hb9]; exact q2
  clear h hs hN hk hc hb9 hp hmb q0 q1 q2
  go_enter Tryd.func17, Tryd.ntmps17
  go_wp2_with (first
    | (go_at_call 34; refine (HC.out _).mono ?_; rintro e w1 ⟨rfl, rfl⟩)
    | (at_delete; refine wpList_drop_op rfl _ _ rfl rfl rfl HM.out HS.out.1 ?_; intro w2 hm2 hg2))
  have HM2 := Lib.hid hm2
  have HG2 := Lib.hid hg2
  clear hm2 hg2
  go_wp2
  go_ret
  refine ⟨rfl, ?_, b, ?_, HG2.out⟩
  · refine TabAt.turn HT.out HB9.out.2 HB9.out.1 (by rw [HK.out]; exact HM2.out.monoN (Nat.le_succ _)) HG2.out (fun c' nm h9 => find_del_other (fun e => h9 (by rw [e.1, HK.out])))
  · rw [HB9.out.1]
    split
    · exact .inl rfl
    · split
      · exact .inr (.inl rfl)
      · exact .inr (.inr rfl)
set_option maxRecDepth 100000 in
set_option maxHeartbeats 2000000 in
theorem Add_clash {w : World} {g b1 b2 b3 N : Nat} {L : List OpV} (h : TabAt w g b1 b2 b3 N L) {p k : Int} {s : ByteArray} (hs : s.size ≤ maxLen) (hN : N < maxLen) {c : Nat} (hc : c < 3) (hk : cls k = c + 1) {b : Nat} (hb9 : b = (if c = 0 then b1 else if c = 1 then b2 else b3)) (hp : 0 < p ∧ p ≤ 1200) (h1 : ¬ s.data.toList = [44]) (h2 : ¬ s.data.toList = [124]) (h3 : ¬ s.data.toList = [91, 93]) (h4 : ¬ s.data.toList = [123, 125]) {fi fo : Bool} (hfi : (Ho.find L 2 s.data.toList).isSome = fi) (hfo : (Ho.find L 3 s.data.toList).isSome = fo) (hx : (c = 1 ∧ fo = true) ∨ (c = 2 ∧ fi = true)) :
    Calls Tryd.prog 17 #[.pointer (some ⟨g, 0, none⟩), .int .i64 p, .int .i64 k, .string s] w (AddPost w g b1 b2 b3 N L L 43) := by
  have HT := Lib.hid h
  have HK := Lib.hid hk
  have HS := Lib.hid (And.intro hs hN)
  have HB9 := Lib.hid (And.intro hb9 hc)
  have HC := Lib.hid (fun w1 => show Calls Tryd.prog 34 #[.int .i64 k] w1 (fun e w' => e = .returned (.int .i64 (c : Int)) ∧ w1 = w') from by have h9 := class_any k w1; rw [hk, show ((c + 1 : Nat) : Int) - 1 = (c : Int) by omega] at h9; exact h9)
  have hc0 : (0 : Int) ≤ (c : Int) := by omega
  have hc3 : (c : Int) < 3 := by omega
  have dn : decide ((c : Int) < 0) = false := decide_eq_false (by omega)
  have r1 : decide (p < 0) = false := decide_eq_false (by omega)
  have r2 : decide (1200 < p) = false := decide_eq_false (by omega)
  have s1 : (s.toList == [44]) = false := by rw [str_beq]; exact decide_eq_false h1
  have s2 : (s.toList == [124]) = false := by rw [str_beq]; exact decide_eq_false h2
  have s3 : (s.toList == [91, 93]) = false := by rw [str_beq]; exact decide_eq_false h3
  have s4 : (s.toList == [123, 125]) = false := by rw [str_beq]; exact decide_eq_false h4
  have d0 : (p == 0) = false := beq_eq_false_iff_ne.2 (by omega)
  clear h1 h2 h3 h4
  have hmb : MapOf Tryd.prog 9 w b N (c + 1) L := by
    have h012 : c = 0 ∨ c = 1 ∨ c = 2 := by omega
    rcases h012 with rfl | rfl | rfl
    · rw [hb9]; exact h.2.1
    · rw [hb9]; exact h.2.2.1
    · rw [hb9]; exact h.2.2.2.1
  have HM := Lib.hid hmb
  obtain ⟨q0, q1, q2⟩ := tab_cells h.1 (Below.refl _ _)
  have qc : w.cell? ⟨g, c, none⟩ = some (.map (some b)) := by
    have h012 : c = 0 ∨ c = 1 ∨ c = 2 := by omega
    rcases h012 with rfl | rfl | rfl
    · rw [hb9]; exact q0
    · rw [hb9]; exact q1
    · rw [hb9]; exact q2
  have hfx : ∀ (c : Nat) (W : World), Below w.heap.size w W → ∀ (bb cc : Nat) (r : Bool), MapOf Tryd.prog 9 w bb N cc L → (Ho.find L cc s.data.toList).isSome = r → ∃ nm xt xp, (Instr.lookup 62 (.map (some bb)) (.string s) true).run Tryd.prog W = .ok (.tuple #[.agg #[.string nm, .int .i64 xt, .int .i64 xp], .bool r]) W := by
    intro _ W hb bb cc r hm hr
    have h9 := (hm.below hb hm.lt).look lawS Tryd.underlying9 Tryd.underlying62 (zeroO _) hs
    rw [hr] at h9
    exact ⟨_, _, _, h9⟩
  obtain ⟨nm1, xt1, xp1, hl1⟩ := hfx 0 w (Below.refl _ _) b2 2 fi h.2.2.1 hfi
  have hbA : Below w.heap.size w (w.alloc (.cells #[.string nm1, .int .i64 xt1, .int .i64 xp1] 23)) := (Below.refl _ _).alloc (Nat.le_refl _) _
  obtain ⟨nm2, xt2, xp2, hl2⟩ := hfx 0 _ hbA b3 3 fo h.2.2.2.1 hfo
  have hbB : Below w.heap.size w ((w.alloc (.cells #[.string nm1, .int .i64 xt1, .int .i64 xp1] 23)).alloc (.cells #[.string nm2, .int .i64 xt2, .int .i64 xp2] 23)) := hbA.alloc (by simp) _
  have HB := Lib.hid hbB
  obtain ⟨u0, u1, u2⟩ := tab_cells h.1 hbA
  have uc : ((w.alloc (.cells #[.string nm1, .int .i64 xt1, .int .i64 xp1] 23)).alloc (.cells #[.string nm2, .int .i64 xt2, .int .i64 xp2] 23)).cell? ⟨g, c, none⟩ = some (.map (some b)) := (hbB.cell h.lt).trans qc
  obtain ⟨b7, hb7⟩ : ∃ x : Bool, ((c : Int) == 1) = x := ⟨_, rfl⟩
  obtain ⟨b8, hb8⟩ : ∃ x : Bool, ((c : Int) == 2) = x := ⟨_, rfl⟩
  have hcx : (b7 && fo || b8 && fi) = true := by
    have e7 : b7 = decide (c = 1) := by rw [← hb7, Bool.eq_iff_iff]; simp; omega
    have e8 : b8 = decide (c = 2) := by rw [← hb8, Bool.eq_iff_iff]; simp; omega
    rw [e7, e8]
    rcases hx with ⟨e1, e2⟩ | ⟨e1, e2⟩
    · rw [e2, decide_eq_true e1]; rfl
    · rw [e2, decide_eq_true e1]; cases fo <;> simp
  clear h hs hN hk hc hb9 hp hmb hfi hfo hfx hbA hbB hx qc q0 u0 u1
  have HCX := Lib.hid hcx
  clear hcx
  cases b7 <;> cases b8 <;> cases fi <;> cases fo
  all_goals first
    | (exact absurd HCX.out (by decide))
    | (exact absurd (d1.symm.trans hb7) (by decide))
    | (go_enter Tryd.func17, Tryd.ntmps17
       go_wp2_with (first | (go_at_call 34; refine (HC.out _).mono ?_; rintro e w1 ⟨rfl, rfl⟩))
       go_ret
       exact AddPost.none HT.out HB.out)
set_option maxRecDepth 100000 in
set_option maxHeartbeats 2000000 in
theorem Add_clashbar {w : World} {g b1 b2 b3 N : Nat} {L : List OpV} (h : TabAt w g b1 b2 b3 N L) {p k : Int} {s : ByteArray} (hs : s.size ≤ maxLen) (hN : N < maxLen) {c : Nat} (hc : c < 3) (hk : cls k = c + 1) {b : Nat} (hb9 : b = (if c = 0 then b1 else if c = 1 then b2 else b3)) (hp : 0 < p ∧ p ≤ 1200) (h1 : ¬ s.data.toList = [44]) (h2 : s.data.toList = [124]) (hb : c = 1 ∧ (p = 0 ∨ 1000 < p)) {fi fo : Bool} (hfi : (Ho.find L 2 s.data.toList).isSome = fi) (hfo : (Ho.find L 3 s.data.toList).isSome = fo) (hx : (c = 1 ∧ fo = true) ∨ (c = 2 ∧ fi = true)) :
    Calls Tryd.prog 17 #[.pointer (some ⟨g, 0, none⟩), .int .i64 p, .int .i64 k, .string s] w (AddPost w g b1 b2 b3 N L L 43) := by
  have HT := Lib.hid h
  have HK := Lib.hid hk
  have HS := Lib.hid (And.intro hs hN)
  have HB9 := Lib.hid (And.intro hb9 hc)
  have HC := Lib.hid (fun w1 => show Calls Tryd.prog 34 #[.int .i64 k] w1 (fun e w' => e = .returned (.int .i64 (c : Int)) ∧ w1 = w') from by have h9 := class_any k w1; rw [hk, show ((c + 1 : Nat) : Int) - 1 = (c : Int) by omega] at h9; exact h9)
  have hc0 : (0 : Int) ≤ (c : Int) := by omega
  have hc3 : (c : Int) < 3 := by omega
  have dn : decide ((c : Int) < 0) = false := decide_eq_false (by omega)
  have r1 : decide (p < 0) = false := decide_eq_false (by omega)
  have r2 : decide (1200 < p) = false := decide_eq_false (by omega)
  have s1 : (s.toList == [44]) = false := by rw [str_beq]; exact decide_eq_false h1
  have s2 : (s.toList == [124]) = true := by rw [str_beq]; exact decide_eq_true h2
  obtain ⟨hb1, hb2⟩ := hb
  have d1 : ((c : Int) == 1) = true := beq_iff_eq.2 (by omega)
  have d0 : (p == 0) = false := beq_eq_false_iff_ne.2 (by omega)
  have d5 : decide (1000 < p) = true := decide_eq_true (by omega)
  clear h1 h2 hb2
  have hmb : MapOf Tryd.prog 9 w b N (c + 1) L := by
    have h012 : c = 0 ∨ c = 1 ∨ c = 2 := by omega
    rcases h012 with rfl | rfl | rfl
    · rw [hb9]; exact h.2.1
    · rw [hb9]; exact h.2.2.1
    · rw [hb9]; exact h.2.2.2.1
  have HM := Lib.hid hmb
  obtain ⟨q0, q1, q2⟩ := tab_cells h.1 (Below.refl _ _)
  have qc : w.cell? ⟨g, c, none⟩ = some (.map (some b)) := by
    have h012 : c = 0 ∨ c = 1 ∨ c = 2 := by omega
    rcases h012 with rfl | rfl | rfl
    · rw [hb9]; exact q0
    · rw [hb9]; exact q1
    · rw [hb9]; exact q2
  have hfx : ∀ (c : Nat) (W : World), Below w.heap.size w W → ∀ (bb cc : Nat) (r : Bool), MapOf Tryd.prog 9 w bb N cc L → (Ho.find L cc s.data.toList).isSome = r → ∃ nm xt xp, (Instr.lookup 62 (.map (some bb)) (.string s) true).run Tryd.prog W = .ok (.tuple #[.agg #[.string nm, .int .i64 xt, .int .i64 xp], .bool r]) W := by
    intro _ W hb bb cc r hm hr
    have h9 := (hm.below hb hm.lt).look lawS Tryd.underlying9 Tryd.underlying62 (zeroO _) hs
    rw [hr] at h9
    exact ⟨_, _, _, h9⟩
  obtain ⟨nm1, xt1, xp1, hl1⟩ := hfx 0 w (Below.refl _ _) b2 2 fi h.2.2.1 hfi
  have hbA : Below w.heap.size w (w.alloc (.cells #[.string nm1, .int .i64 xt1, .int .i64 xp1] 23)) := (Below.refl _ _).alloc (Nat.le_refl _) _
  obtain ⟨nm2, xt2, xp2, hl2⟩ := hfx 0 _ hbA b3 3 fo h.2.2.2.1 hfo
  have hbB : Below w.heap.size w ((w.alloc (.cells #[.string nm1, .int .i64 xt1, .int .i64 xp1] 23)).alloc (.cells #[.string nm2, .int .i64 xt2, .int .i64 xp2] 23)) := hbA.alloc (by simp) _
  have HB := Lib.hid hbB
  obtain ⟨u0, u1, u2⟩ := tab_cells h.1 hbA
  have uc : ((w.alloc (.cells #[.string nm1, .int .i64 xt1, .int .i64 xp1] 23)).alloc (.cells #[.string nm2, .int .i64 xt2, .int .i64 xp2] 23)).cell? ⟨g, c, none⟩ = some (.map (some b)) := (hbB.cell h.lt).trans qc
  obtain ⟨b7, hb7⟩ : ∃ x : Bool, ((c : Int) == 1) = x := ⟨_, rfl⟩
  obtain ⟨b8, hb8⟩ : ∃ x : Bool, ((c : Int) == 2) = x := ⟨_, rfl⟩
  have hcx : (b7 && fo || b8 && fi) = true := by
    have e7 : b7 = decide (c = 1) := by rw [← hb7, Bool.eq_iff_iff]; simp; omega
    have e8 : b8 = decide (c = 2) := by rw [← hb8, Bool.eq_iff_iff]; simp; omega
    rw [e7, e8]
    rcases hx with ⟨e1, e2⟩ | ⟨e1, e2⟩
    · rw [e2, decide_eq_true e1]; rfl
    · rw [e2, decide_eq_true e1]; cases fo <;> simp
  clear h hs hN hk hc hb9 hp hmb hfi hfo hfx hbA hbB hx qc q0 u0 u1 hb1
  have HCX := Lib.hid hcx
  clear hcx
  cases b7 <;> cases b8 <;> cases fi <;> cases fo
  all_goals first
    | (exact absurd HCX.out (by decide))
    | (exact absurd (d1.symm.trans hb7) (by decide))
    | (go_enter Tryd.func17, Tryd.ntmps17
       go_wp2_with (first | (go_at_call 34; refine (HC.out _).mono ?_; rintro e w1 ⟨rfl, rfl⟩))
       go_ret
       exact AddPost.none HT.out HB.out)
set_option maxRecDepth 100000 in
set_option maxHeartbeats 2000000 in
theorem Add_put {w : World} {g b1 b2 b3 N : Nat} {L : List OpV} (h : TabAt w g b1 b2 b3 N L) {p k : Int} {s : ByteArray} (hs : s.size ≤ maxLen) (hN : N < maxLen) {c : Nat} (hc : c < 3) (hk : cls k = c + 1) {b : Nat} (hb9 : b = (if c = 0 then b1 else if c = 1 then b2 else b3)) (hp : 0 < p ∧ p ≤ 1200) (h1 : ¬ s.data.toList = [44]) (h2 : ¬ s.data.toList = [124]) (h3 : ¬ s.data.toList = [91, 93]) (h4 : ¬ s.data.toList = [123, 125]) {fi fo : Bool} (hfi : (Ho.find L 2 s.data.toList).isSome = fi) (hfo : (Ho.find L 3 s.data.toList).isSome = fo) (hx : ¬ ((c = 1 ∧ fo = true) ∨ (c = 2 ∧ fi = true))) :
    Calls Tryd.prog 17 #[.pointer (some ⟨g, 0, none⟩), .int .i64 p, .int .i64 k, .string s] w (AddPost w g b1 b2 b3 N L (Ho.put L ⟨s.data.toList, k, p⟩) 0) := by
  have HT := Lib.hid h
  have HK := Lib.hid hk
  have HS := Lib.hid (And.intro hs hN)
  have HB9 := Lib.hid (And.intro hb9 hc)
  have HC := Lib.hid (fun w1 => show Calls Tryd.prog 34 #[.int .i64 k] w1 (fun e w' => e = .returned (.int .i64 (c : Int)) ∧ w1 = w') from by have h9 := class_any k w1; rw [hk, show ((c + 1 : Nat) : Int) - 1 = (c : Int) by omega] at h9; exact h9)
  have hc0 : (0 : Int) ≤ (c : Int) := by omega
  have hc3 : (c : Int) < 3 := by omega
  have dn : decide ((c : Int) < 0) = false := decide_eq_false (by omega)
  have r1 : decide (p < 0) = false := decide_eq_false (by omega)
  have r2 : decide (1200 < p) = false := decide_eq_false (by omega)
  have s1 : (s.toList == [44]) = false := by rw [str_beq]; exact decide_eq_false h1
  have s2 : (s.toList == [124]) = false := by rw [str_beq]; exact decide_eq_false h2
  have s3 : (s.toList == [91, 93]) = false := by rw [str_beq]; exact decide_eq_false h3
  have s4 : (s.toList == [123, 125]) = false := by rw [str_beq]; exact decide_eq_false h4
  have d0 : (p == 0) = false := beq_eq_false_iff_ne.2 (by omega)
  clear h1 h2 h3 h4
  have hmb : MapOf Tryd.prog 9 w b N (c + 1) L := by
    have h012 : c = 0 ∨ c = 1 ∨ c = 2 := by omega
    rcases h012 with rfl | rfl | rfl
    · rw [hb9]; exact h.2.1
    · rw [hb9]; exact h.2.2.1
    · rw [hb9]; exact h.2.2.2.1
  have HM := Lib.hid hmb
  obtain ⟨q0, q1, q2⟩ := tab_cells h.1 (Below.refl _ _)
  have qc : w.cell? ⟨g, c, none⟩ = some (.map (some b)) := by
    have h012 : c = 0 ∨ c = 1 ∨ c = 2 := by omega
    rcases h012 with rfl | rfl | rfl
    · rw [hb9]; exact q0
    · rw [hb9]; exact q1
    · rw [hb9]; exact q2
  have hfx : ∀ (c : Nat) (W : World), Below w.heap.size w W → ∀ (bb cc : Nat) (r : Bool), MapOf Tryd.prog 9 w bb N cc L → (Ho.find L cc s.data.toList).isSome = r → ∃ nm xt xp, (Instr.lookup 62 (.map (some bb)) (.string s) true).run Tryd.prog W = .ok (.tuple #[.agg #[.string nm, .int .i64 xt, .int .i64 xp], .bool r]) W := by
    intro _ W hb bb cc r hm hr
    have h9 := (hm.below hb hm.lt).look lawS Tryd.underlying9 Tryd.underlying62 (zeroO _) hs
    rw [hr] at h9
    exact ⟨_, _, _, h9⟩
  obtain ⟨nm1, xt1, xp1, hl1⟩ := hfx 0 w (Below.refl _ _) b2 2 fi h.2.2.1 hfi
  have hbA : Below w.heap.size w (w.alloc (.cells #[.string nm1, .int .i64 xt1, .int .i64 xp1] 23)) := (Below.refl _ _).alloc (Nat.le_refl _) _
  obtain ⟨nm2, xt2, xp2, hl2⟩ := hfx 0 _ hbA b3 3 fo h.2.2.2.1 hfo
  have hbB : Below w.heap.size w ((w.alloc (.cells #[.string nm1, .int .i64 xt1, .int .i64 xp1] 23)).alloc (.cells #[.string nm2, .int .i64 xt2, .int .i64 xp2] 23)) := hbA.alloc (by simp) _
  have HB := Lib.hid hbB
  obtain ⟨u0, u1, u2⟩ := tab_cells h.1 hbA
  have uc : ((w.alloc (.cells #[.string nm1, .int .i64 xt1, .int .i64 xp1] 23)).alloc (.cells #[.string nm2, .int .i64 xt2, .int .i64 xp2] 23)).cell? ⟨g, c, none⟩ = some (.map (some b)) := (hbB.cell h.lt).trans qc
  obtain ⟨b7, hb7⟩ : ∃ x : Bool, ((c : Int) == 1) = x := ⟨_, rfl⟩
  obtain ⟨b8, hb8⟩ : ∃ x : Bool, ((c : Int) == 2) = x := ⟨_, rfl⟩
  have hcx : (b7 && fo || b8 && fi) = false := by
    have e7 : b7 = decide (c = 1) := by rw [← hb7, Bool.eq_iff_iff]; simp; omega
    have e8 : b8 = decide (c = 2) := by rw [← hb8, Bool.eq_iff_iff]; simp; omega
    rw [e7, e8]
    rw [Bool.eq_false_iff]
    intro e
    apply hx
    rcases Bool.or_eq_true_iff.1 e with e | e
    · have := Bool.and_eq_true_iff.1 e
      exact .inl ⟨of_decide_eq_true this.1, this.2⟩
    · have := Bool.and_eq_true_iff.1 e
      exact .inr ⟨of_decide_eq_true this.1, this.2⟩
  clear h hs hN hk hc hb9 hp hmb hfi hfo hfx hbA hbB hx qc q0 u0 u1
  have HCX := Lib.hid hcx
  clear hcx
  cases b7 <;> cases b8 <;> cases fi <;> cases fo
  all_goals first
    | (exact absurd HCX.out (by decide))
    | (exact absurd (d1.symm.trans hb7) (by decide))
    | (go_enter Tryd.func17, Tryd.ntmps17
       go_wp2_with (first | (go_at_call 34; refine (HC.out _).mono ?_; rintro e w1 ⟨rfl, rfl⟩) | (at_mapUpdate; refine wpList_store_op rfl _ _ _ rfl rfl rfl rfl (HM.out.below HB.out HM.out.lt) HS.out.1 HS.out.2 HK.out ?_; intro w2 hm2 hg2))
       have HM2 := Lib.hid hm2
       have HG2 := Lib.hid hg2
       clear hm2 hg2
       go_wp2
       go_ret
       exact add_fin HT.out HB9.out.2 HB9.out.1 HK.out HB.out HM2.out HG2.out)
set_option maxRecDepth 100000 in
set_option maxHeartbeats 2000000 in
theorem Add_putbar {w : World} {g b1 b2 b3 N : Nat} {L : List OpV} (h : TabAt w g b1 b2 b3 N L) {p k : Int} {s : ByteArray} (hs : s.size ≤ maxLen) (hN : N < maxLen) {c : Nat} (hc : c < 3) (hk : cls k = c + 1) {b : Nat} (hb9 : b = (if c = 0 then b1 else if c = 1 then b2 else b3)) (hp : 0 < p ∧ p ≤ 1200) (h1 : ¬ s.data.toList = [44]) (h2 : s.data.toList = [124]) (hb : c = 1 ∧ (p = 0 ∨ 1000 < p)) {fi fo : Bool} (hfi : (Ho.find L 2 s.data.toList).isSome = fi) (hfo : (Ho.find L 3 s.data.toList).isSome = fo) (hx : ¬ ((c = 1 ∧ fo = true) ∨ (c = 2 ∧ fi = true))) :
    Calls Tryd.prog 17 #[.pointer (some ⟨g, 0, none⟩), .int .i64 p, .int .i64 k, .string s] w (AddPost w g b1 b2 b3 N L (Ho.put L ⟨s.data.toList, k, p⟩) 0) := by
  have HT := Lib.hid h
  have HK := Lib.hid hk
  have HS := Lib.hid (And.intro hs hN)
  have HB9 := Lib.hid (And.intro hb9 hc)
  have HC := Lib.hid (fun w1 => show Calls Tryd.prog 34 #[.int .i64 k] w1 (fun e w' => e = .returned (.int .i64 (c : Int)) ∧ w1 = w') from by have h9 := class_any k w1; rw [hk, show ((c + 1 : Nat) : Int) - 1 = (c : Int) by omega] at h9; exact h9)
  have hc0 : (0 : Int) ≤ (c : Int) := by omega
  have hc3 : (c : Int) < 3 := by omega
  have dn : decide ((c : Int) < 0) = false := decide_eq_false (by omega)
  have r1 : decide (p < 0) = false := decide_eq_false (by omega)
  have r2 : decide (1200 < p) = false := decide_eq_false (by omega)
  have s1 : (s.toList == [44]) = false := by rw [str_beq]; exact decide_eq_false h1
  have s2 : (s.toList == [124]) = true := by rw [str_beq]; exact decide_eq_true h2
  obtain ⟨hb1, hb2⟩ := hb
  have d1 : ((c : Int) == 1) = true := beq_iff_eq.2 (by omega)
  have d0 : (p == 0) = false := beq_eq_false_iff_ne.2 (by omega)
  have d5 : decide (1000 < p) = true := decide_eq_true (by omega)
  clear h1 h2 hb2
  have hmb : MapOf Tryd.prog 9 w b N (c + 1) L := by
    have h012 : c = 0 ∨ c = 1 ∨ c = 2 := by omega
    rcases h012 with rfl | rfl | rfl
    · rw [hb9]; exact h.2.1
    · rw [hb9]; exact h.2.2.1
    · rw [hb9]; exact h.2.2.2.1
  have HM := Lib.hid hmb
  obtain ⟨q0, q1, q2⟩ := tab_cells h.1 (Below.refl _ _)
  have qc : w.cell? ⟨g, c, none⟩ = some (.map (some b)) := by
    have h012 : c = 0 ∨ c = 1 ∨ c = 2 := by omega
    rcases h012 with rfl | rfl | rfl
    · rw [hb9]; exact q0
    · rw [hb9]; exact q1
    · rw [hb9]; exact q2
  have hfx : ∀ (c : Nat) (W : World), Below w.heap.size w W → ∀ (bb cc : Nat) (r : Bool), MapOf Tryd.prog 9 w bb N cc L → (Ho.find L cc s.data.toList).isSome = r → ∃ nm xt xp, (Instr.lookup 62 (.map (some bb)) (.string s) true).run Tryd.prog W = .ok (.tuple #[.agg #[.string nm, .int .i64 xt, .int .i64 xp], .bool r]) W := by
    intro _ W hb bb cc r hm hr
    have h9 := (hm.below hb hm.lt).look lawS Tryd.underlying9 Tryd.underlying62 (zeroO _) hs
    rw [hr] at h9
    exact ⟨_, _, _, h9⟩
  obtain ⟨nm1, xt1, xp1, hl1⟩ := hfx 0 w (Below.refl _ _) b2 2 fi h.2.2.1 hfi
  have hbA : Below w.heap.size w (w.alloc (.cells #[.string nm1, .int .i64 xt1, .int .i64 xp1] 23)) := (Below.refl _ _).alloc (Nat.le_refl _) _
  obtain ⟨nm2, xt2, xp2, hl2⟩ := hfx 0 _ hbA b3 3 fo h.2.2.2.1 hfo
  have hbB : Below w.heap.size w ((w.alloc (.cells #[.string nm1, .int .i64 xt1, .int .i64 xp1] 23)).alloc (.cells #[.string nm2, .int .i64 xt2, .int .i64 xp2] 23)) := hbA.alloc (by simp) _
  have HB := Lib.hid hbB
  obtain ⟨u0, u1, u2⟩ := tab_cells h.1 hbA
  have uc : ((w.alloc (.cells #[.string nm1, .int .i64 xt1, .int .i64 xp1] 23)).alloc (.cells #[.string nm2, .int .i64 xt2, .int .i64 xp2] 23)).cell? ⟨g, c, none⟩ = some (.map (some b)) := (hbB.cell h.lt).trans qc
  obtain ⟨b7, hb7⟩ : ∃ x : Bool, ((c : Int) == 1) = x := ⟨_, rfl⟩
  obtain ⟨b8, hb8⟩ : ∃ x : Bool, ((c : Int) == 2) = x := ⟨_, rfl⟩
  have hcx : (b7 && fo || b8 && fi) = false := by
    have e7 : b7 = decide (c = 1) := by rw [← hb7, Bool.eq_iff_iff]; simp; omega
    have e8 : b8 = decide (c = 2) := by rw [← hb8, Bool.eq_iff_iff]; simp; omega
    rw [e7, e8]
    rw [Bool.eq_false_iff]
    intro e
    apply hx
    rcases Bool.or_eq_true_iff.1 e with e | e
    · have := Bool.and_eq_true_iff.1 e
      exact .inl ⟨of_decide_eq_true this.1, this.2⟩
    · have := Bool.and_eq_true_iff.1 e
      exact .inr ⟨of_decide_eq_true this.1, this.2⟩
  clear h hs hN hk hc hb9 hp hmb hfi hfo hfx hbA hbB hx qc q0 u0 u1 hb1
  have HCX := Lib.hid hcx
  clear hcx
  cases b7 <;> cases b8 <;> cases fi <;> cases fo
  all_goals first
    | (exact absurd HCX.out (by decide))
    | (exact absurd (d1.symm.trans hb7) (by decide))
    | (go_enter Tryd.func17, Tryd.ntmps17
       go_wp2_with (first | (go_at_call 34; refine (HC.out _).mono ?_; rintro e w1 ⟨rfl, rfl⟩) | (at_mapUpdate; refine wpList_store_op rfl _ _ _ rfl rfl rfl rfl (HM.out.below HB.out HM.out.lt) HS.out.1 HS.out.2 HK.out ?_; intro w2 hm2 hg2))
       have HM2 := Lib.hid hm2
       have HG2 := Lib.hid hg2
       clear hm2 hg2
       go_wp2
       go_ret
       exact add_fin HT.out HB9.out.2 HB9.out.1 HK.out HB.out HM2.out HG2.out)
end Go.Proofs.YtfdcponamkfcaaaDoor
