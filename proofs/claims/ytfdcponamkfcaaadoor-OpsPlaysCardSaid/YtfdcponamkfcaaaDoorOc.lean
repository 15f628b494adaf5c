import Derived.Test.YtfdcponamkfcaaaDoorOb
namespace Go.Proofs.YtfdcponamkfcaaaDoor
open Go.RowKit Ho Go.Maps
set_option linter.unusedVariables false
set_option linter.unusedSimpArgs false

/-! ### the operations on a map of operators, for the walk -/
theorem wpList_drop_op {w : World} {ops : Array Oper} {rest : List Oper} {o : Oper} {a : Act} {Q : Exit → Act → World → Prop}
    (hg : o.guard = none) (m x : Operand) (hop : o.op = Op.call { callee := Callee.builtin Builtin.delete, args := #[m, x], argTypes := #[62, 9] })
    {b N c : Nat} {L : List OpV} {s : ByteArray} (hm : a.eval m = .map (some b)) (hx : a.eval x = .string s) (hown : MapOf Tryd.prog 9 w b N c L) (hs : s.size ≤ maxLen)
    (hK : ∀ w', MapOf Tryd.prog 9 w' b N c (Ho.del L c s.data.toList) → w.grownBy w' (some b) → wpList Tryd.prog ops Q rest (a.put o.dst (.tuple #[])) w') :
    wpList Tryd.prog ops Q (o :: rest) a w := by
  refine wpList_plain hg fun K' hK' => ?_
  obtain ⟨w', hrun, r1, r2⟩ := hown.drop lawS Tryd.underlying9 Tryd.underlying62 hs o.type
  unfold Oper.wp
  simp [execOp, hop, resolve, invoke, builtin, hm, hx, hrun, Result.andThen]
  exact hK' _ _ (hK w' r1 r2)
theorem wpList_store_op {w : World} {ops : Array Oper} {rest : List Oper} {o : Oper} {a : Act} {Q : Exit → Act → World → Prop}
    (hg : o.guard = none) (m x v : Operand) (hop : o.op = Op.mapUpdate 62 m x v)
    {b N c : Nat} {L : List OpV} {s : ByteArray} {t p : Int} (hm : a.eval m = .map (some b)) (hx : a.eval x = .string s) (hv : a.eval v = .agg #[.string s, .int .i64 t, .int .i64 p]) (hown : MapOf Tryd.prog 9 w b N c L) (hs : s.size ≤ maxLen) (hN : N < maxLen) (hc : cls t = c)
    (hK : ∀ w', MapOf Tryd.prog 9 w' b (N + 1) c (Ho.put L ⟨s.data.toList, t, p⟩) → w.grownBy w' (some b) → wpList Tryd.prog ops Q rest (a.put o.dst undef) w') :
    wpList Tryd.prog ops Q (o :: rest) a w := by
  refine wpList_plain hg fun K' hK' => ?_
  obtain ⟨w', hrun, r1, r2⟩ := hown.store lawS Tryd.underlying9 Tryd.underlying62 hN hs (x := ⟨s.data.toList, t, p⟩) rfl hc
  rw [show opV ⟨s.data.toList, t, p⟩ = .agg #[.string s, .int .i64 t, .int .i64 p] from rfl] at hrun
  unfold Oper.wp
  simp [execOp, hop, hm, hx, hv, hrun, Result.andThen]
  exact hK' _ _ (hK w' r1 r2)
theorem str_beq (s : ByteArray) (l : List UInt8) : (s.toList == l) = decide (s.data.toList = l) := by
  rw [ByteArray.toList_eq, Bool.eq_iff_iff, beq_iff_eq, decide_eq_true_iff]
/-- a table behind a change of the map of one class -/
theorem TabAt.turn {w w' : World} {g b1 b2 b3 N : Nat} {L L' : List OpV} (h : TabAt w g b1 b2 b3 N L) {c : Nat} (hc : c < 3) {b : Nat} (hb : b = (if c = 0 then b1 else if c = 1 then b2 else b3)) (hm : MapOf Tryd.prog 9 w' b (N + 1) (c + 1) L') (hg : w.grownBy w' (some b)) (ho : ∀ c' nm, c' ≠ c + 1 → find L' c' nm = find L c' nm) :
    TabAt w' g b1 b2 b3 (N + 1) L' := by
  have hne := h.ne h.1
  obtain ⟨h0, m1, m2, m3, d1, d2, d3⟩ := h
  have hgb : some g ≠ some b := by
    intro e
    injection e with e
    have h012 : c = 0 ∨ c = 1 ∨ c = 2 := by omega
    rcases h012 with rfl | rfl | rfl
    · exact hne.1 (by rw [e, hb]; rfl)
    · exact hne.2.1 (by rw [e, hb]; rfl)
    · exact hne.2.2 (by rw [e, hb]; rfl)
  refine ⟨(hg.block g (Array.getElem?_eq_some_iff.1 h0).1 hgb).trans h0, ?_⟩
  have h012 : c = 0 ∨ c = 1 ∨ c = 2 := by omega
  rcases h012 with rfl | rfl | rfl
  · obtain rfl : b = b1 := hb
    exact ⟨hm, ((m2.kept hg (fun e => d1 (by injection e with e; exact e.symm))).monoN (Nat.le_succ _)).same (fun nm => ho 2 nm (by decide)), ((m3.kept hg (fun e => d2 (by injection e with e; exact e.symm))).monoN (Nat.le_succ _)).same (fun nm => ho 3 nm (by decide)), d1, d2, d3⟩
  · obtain rfl : b = b2 := hb
    exact ⟨((m1.kept hg (fun e => d1 (by injection e))).monoN (Nat.le_succ _)).same (fun nm => ho 1 nm (by decide)), hm, ((m3.kept hg (fun e => d3 (by injection e with e; exact e.symm))).monoN (Nat.le_succ _)).same (fun nm => ho 3 nm (by decide)), d1, d2, d3⟩
  · obtain rfl : b = b3 := hb
    exact ⟨((m1.kept hg (fun e => d2 (by injection e))).monoN (Nat.le_succ _)).same (fun nm => ho 1 nm (by decide)), ((m2.kept hg (fun e => d3 (by injection e))).monoN (Nat.le_succ _)).same (fun nm => ho 2 nm (by decide)), hm, d1, d2, d3⟩
theorem TabAt.more {w : World} {g b1 b2 b3 N : Nat} {L : List OpV} (h : TabAt w g b1 b2 b3 N L) : TabAt w g b1 b2 b3 (N + 1) L :=
  ⟨h.1, h.2.1.monoN (Nat.le_succ _), h.2.2.1.monoN (Nat.le_succ _), h.2.2.2.1.monoN (Nat.le_succ _), h.2.2.2.2⟩
def AddPost (w : World) (g b1 b2 b3 N : Nat) (L L' : List OpV) (co : Int) (e : Ending) (w' : World) : Prop :=
  e = .returned (.int .i64 co) ∧ TabAt w' g b1 b2 b3 (N + 1) L' ∧ ∃ b, (b = b1 ∨ b = b2 ∨ b = b3) ∧ w.grownBy w' (some b)
theorem AddPost.none {w w' : World} {g b1 b2 b3 N : Nat} {L : List OpV} {co : Int} (h : TabAt w g b1 b2 b3 N L) (hb : Below w.heap.size w w') : AddPost w g b1 b2 b3 N L L co (.returned (.int .i64 co)) w' :=
  ⟨rfl, (h.below hb).more, b1, .inl rfl, ⟨hb.os, hb.tape, hb.output, hb.size, fun j hj _ => hb.block j hj⟩⟩
/-! ### Add -/
set_option maxRecDepth 100000 in
set_option maxHeartbeats 2000000 in
theorem Add_lo {w : World} {g b1 b2 b3 N : Nat} {L : List OpV} (h : TabAt w g b1 b2 b3 N L) {p k : Int} {s : ByteArray} (hs : s.size ≤ maxLen) (hN : N < maxLen) (hp : p < 0) :
    Calls Tryd.prog 17 #[.pointer (some ⟨g, 0, none⟩), .int .i64 p, .int .i64 k, .string s] w (AddPost w g b1 b2 b3 N L L 40) := by
  have HT := Lib.hid h
  have HC := Lib.hid (fun w1 => class_any k w1)
  have r1 : decide (p < 0) = true := decide_eq_true hp
  clear hp
  clear h hs hN
  go_enter Tryd.func17, Tryd.ntmps17
  go_wp2_with (go_at_call 34; refine (HC.out _).mono ?_; rintro e w1 ⟨rfl, rfl⟩)
  all_goals
    go_ret
    exact AddPost.none HT.out (Below.refl _ _)
set_option maxRecDepth 100000 in
set_option maxHeartbeats 2000000 in
theorem Add_hi {w : World} {g b1 b2 b3 N : Nat} {L : List OpV} (h : TabAt w g b1 b2 b3 N L) {p k : Int} {s : ByteArray} (hs : s.size ≤ maxLen) (hN : N < maxLen) (hp : 1200 < p) :
    Calls Tryd.prog 17 #[.pointer (some ⟨g, 0, none⟩), .int .i64 p, .int .i64 k, .string s] w (AddPost w g b1 b2 b3 N L L 40) := by
  have HT := Lib.hid h
  have HC := Lib.hid (fun w1 => class_any k w1)
  have r1 : decide (p < 0) = false := decide_eq_false (by omega)
  have r2 : decide (1200 < p) = true := decide_eq_true hp
  clear hp
  clear h hs hN
  go_enter Tryd.func17, Tryd.ntmps17
  go_wp2_with (go_at_call 34; refine (HC.out _).mono ?_; rintro e w1 ⟨rfl, rfl⟩)
  all_goals
    go_ret
    exact AddPost.none HT.out (Below.refl _ _)
set_option maxRecDepth 100000 in
set_option maxHeartbeats 2000000 in
theorem Add_kind {w : World} {g b1 b2 b3 N : Nat} {L : List OpV} (h : TabAt w g b1 b2 b3 N L) {p k : Int} {s : ByteArray} (hs : s.size ≤ maxLen) (hN : N < maxLen) (hp : 0 ≤ p ∧ p ≤ 1200) (hk : cls k = 0) :
    Calls Tryd.prog 17 #[.pointer (some ⟨g, 0, none⟩), .int .i64 p, .int .i64 k, .string s] w (AddPost w g b1 b2 b3 N L L 41) := by
  have HT := Lib.hid h
  have HC := Lib.hid (fun w1 => show Calls Tryd.prog 34 #[.int .i64 k] w1 (fun e w' => e = .returned (.int .i64 (-1)) ∧ w1 = w') from by have h9 := class_any k w1; rw [hk] at h9; exact h9)
  have r1 : decide (p < 0) = false := decide_eq_false (by omega)
  have r2 : decide (1200 < p) = false := decide_eq_false (by omega)
  clear hp hk
  clear h hs hN
  go_enter Tryd.func17, Tryd.ntmps17
  go_wp2_with (go_at_call 34; refine (HC.out _).mono ?_; rintro e w1 ⟨rfl, rfl⟩)
  all_goals
    go_ret
    exact AddPost.none HT.out (Below.refl _ _)
set_option maxRecDepth 100000 in
set_option maxHeartbeats 2000000 in
theorem Add_comma {w : World} {g b1 b2 b3 N : Nat} {L : List OpV} (h : TabAt w g b1 b2 b3 N L) {p k : Int} {s : ByteArray} (hs : s.size ≤ maxLen) (hN : N < maxLen) {c : Nat} (hc : c < 3) (hk : cls k = c + 1) (hp : 0 ≤ p ∧ p ≤ 1200) (h1 : s.data.toList = [44]) :
    Calls Tryd.prog 17 #[.pointer (some ⟨g, 0, none⟩), .int .i64 p, .int .i64 k, .string s] w (AddPost w g b1 b2 b3 N L L 42) := by
  have HT := Lib.hid h
  have HC := Lib.hid (fun w1 => show Calls Tryd.prog 34 #[.int .i64 k] w1 (fun e w' => e = .returned (.int .i64 (c : Int)) ∧ w1 = w') from by have h9 := class_any k w1; rw [hk, show ((c + 1 : Nat) : Int) - 1 = (c : Int) by omega] at h9; exact h9)
  have hc0 : (0 : Int) ≤ (c : Int) := by omega
  have hc3 : (c : Int) < 3 := by omega
  have dn : decide ((c : Int) < 0) = false := decide_eq_false (by omega)
  have r1 : decide (p < 0) = false := decide_eq_false (by omega)
  have r2 : decide (1200 < p) = false := decide_eq_false (by omega)
  have s1 : (s.toList == [44]) = true := by rw [str_beq]; exact decide_eq_true h1
  clear hp h1
  clear h hs hN hk hc
  go_enter Tryd.func17, Tryd.ntmps17
  go_wp2_with (go_at_call 34; refine (HC.out _).mono ?_; rintro e w1 ⟨rfl, rfl⟩)
  all_goals
    go_ret
    exact AddPost.none HT.out (Below.refl _ _)
set_option maxRecDepth 100000 in
set_option maxHeartbeats 2000000 in
theorem Add_bar {w : World} {g b1 b2 b3 N : Nat} {L : List OpV} (h : TabAt w g b1 b2 b3 N L) {p k : Int} {s : ByteArray} (hs : s.size ≤ maxLen) (hN : N < maxLen) {c : Nat} (hc : c < 3) (hk : cls k = c + 1) (hp : 0 ≤ p ∧ p ≤ 1200) (h1 : ¬ s.data.toList = [44]) (h2 : s.data.toList = [124]) (hb : ¬ (c = 1 ∧ (p = 0 ∨ 1000 < p))) :
    Calls Tryd.prog 17 #[.pointer (some ⟨g, 0, none⟩), .int .i64 p, .int .i64 k, .string s] w (AddPost w g b1 b2 b3 N L L 43) := by
  have HT := Lib.hid h
  have HC := Lib.hid (fun w1 => show Calls Tryd.prog 34 #[.int .i64 k] w1 (fun e w' => e = .returned (.int .i64 (c : Int)) ∧ w1 = w') from by have h9 := class_any k w1; rw [hk, show ((c + 1 : Nat) : Int) - 1 = (c : Int) by omega] at h9; exact h9)
  have hc0 : (0 : Int) ≤ (c : Int) := by omega
  have hc3 : (c : Int) < 3 := by omega
  have dn : decide ((c : Int) < 0) = false := decide_eq_false (by omega)
  have r1 : decide (p < 0) = false := decide_eq_false (by omega)
  have r2 : decide (1200 < p) = false := decide_eq_false (by omega)
  have s1 : (s.toList == [44]) = false := by rw [str_beq]; exact decide_eq_false h1
  have s2 : (s.toList == [124]) = true := by rw [str_beq]; exact decide_eq_true h2
  obtain ⟨b3', hb3⟩ : ∃ b : Bool, ((c : Int) == 1) = b := ⟨_, rfl⟩
  obtain ⟨b4, hb4⟩ : ∃ b : Bool, (p == 0) = b := ⟨_, rfl⟩
  obtain ⟨b5, hb5⟩ : ∃ b : Bool, decide (1000 < p) = b := ⟨_, rfl⟩
  have hbb : b3' = true → b4 = false ∧ b5 = false := by
    intro e
    rw [e] at hb3
    have e1 : c = 1 := by have := beq_iff_eq.1 hb3; omega
    refine ⟨?_, ?_⟩
    · rw [← hb4]; exact beq_eq_false_iff_ne.2 (fun e2 => hb ⟨e1, .inl e2⟩)
    · rw [← hb5]; exact decide_eq_false (fun e2 => hb ⟨e1, .inr e2⟩)
  clear hp h1 h2 hb
  cases b3'
  rotate_left
  · obtain ⟨rfl, rfl⟩ := hbb rfl
    clear hbb h hs hN hk hc
    go_enter Tryd.func17, Tryd.ntmps17
    go_wp2_with (go_at_call 34; refine (HC.out _).mono ?_; rintro e w1 ⟨rfl, rfl⟩)
    all_goals
      go_ret
      exact AddPost.none HT.out (Below.refl _ _)
  clear hbb hb4 hb5
  clear h hs hN hk hc
  go_enter Tryd.func17, Tryd.ntmps17
  go_wp2_with (go_at_call 34; refine (HC.out _).mono ?_; rintro e w1 ⟨rfl, rfl⟩)
  all_goals
    go_ret
    exact AddPost.none HT.out (Below.refl _ _)
set_option maxRecDepth 100000 in
set_option maxHeartbeats 2000000 in
theorem Add_list {w : World} {g b1 b2 b3 N : Nat} {L : List OpV} (h : TabAt w g b1 b2 b3 N L) {p k : Int} {s : ByteArray} (hs : s.size ≤ maxLen) (hN : N < maxLen) {c : Nat} (hc : c < 3) (hk : cls k = c + 1) (hp : 0 ≤ p ∧ p ≤ 1200) (h1 : ¬ s.data.toList = [44]) (h2 : ¬ s.data.toList = [124]) (h3 : s.data.toList = [91, 93]) :
    Calls Tryd.prog 17 #[.pointer (some ⟨g, 0, none⟩), .int .i64 p, .int .i64 k, .string s] w (AddPost w g b1 b2 b3 N L L 43) := by
  have HT := Lib.hid h
  have HC := Lib.hid (fun w1 => show Calls Tryd.prog 34 #[.int .i64 k] w1 (fun e w' => e = .returned (.int .i64 (c : Int)) ∧ w1 = w') from by have h9 := class_any k w1; rw [hk, show ((c + 1 : Nat) : Int) - 1 = (c : Int) by omega] at h9; exact h9)
  have hc0 : (0 : Int) ≤ (c : Int) := by omega
  have hc3 : (c : Int) < 3 := by omega
  have dn : decide ((c : Int) < 0) = false := decide_eq_false (by omega)
  have r1 : decide (p < 0) = false := decide_eq_false (by omega)
  have r2 : decide (1200 < p) = false := decide_eq_false (by omega)
  have s1 : (s.toList == [44]) = false := by rw [str_beq]; exact decide_eq_false h1
  have s2 : (s.toList == [124]) = false := by rw [str_beq]; exact decide_eq_false h2
  have s3 : (s.toList == [91, 93]) = true := by rw [str_beq]; exact decide_eq_true h3
  clear hp h1 h2 h3
  clear h hs hN hk hc
  go_enter Tryd.func17, Tryd.ntmps17
  go_wp2_with (go_at_call 34; refine (HC.out _).mono ?_; rintro e w1 ⟨rfl, rfl⟩)
  all_goals
    go_ret
    exact AddPost.none HT.out (Below.refl _ _)
set_option maxRecDepth 100000 in
set_option maxHeartbeats 2000000 in
theorem Add_curl {w : World} {g b1 b2 b3 N : Nat} {L : List OpV} (h : TabAt w g b1 b2 b3 N L) {p k : Int} {s : ByteArray} (hs : s.size ≤ maxLen) (hN : N < maxLen) {c : Nat} (hc : c < 3) (hk : cls k = c + 1) (hp : 0 ≤ p ∧ p ≤ 1200) (h1 : ¬ s.data.toList = [44]) (h2 : ¬ s.data.toList = [124]) (h3 : ¬ s.data.toList = [91, 93]) (h4 : s.data.toList = [123, 125]) :
    Calls Tryd.prog 17 #[.pointer (some ⟨g, 0, none⟩), .int .i64 p, .int .i64 k, .string s] w (AddPost w g b1 b2 b3 N L L 43) := by
  have HT := Lib.hid h
  have HC := Lib.hid (fun w1 => show Calls Tryd.prog 34 #[.int .i64 k] w1 (fun e w' => e = .returned (.int .i64 (c : Int)) ∧ w1 = w') from by have h9 := class_any k w1; rw [hk, show ((c + 1 : Nat) : Int) - 1 = (c : Int) by omega] at h9; exact h9)
  have hc0 : (0 : Int) ≤ (c : Int) := by omega
  have hc3 : (c : Int) < 3 := by omega
  have dn : decide ((c : Int) < 0) = false := decide_eq_false (by omega)
  have r1 : decide (p < 0) = false := decide_eq_false (by omega)
  have r2 : decide (1200 < p) = false := decide_eq_false (by omega)
  have s1 : (s.toList == [44]) = false := by rw [str_beq]; exact decide_eq_false h1
  have s2 : (s.toList == [124]) = false := by rw [str_beq]; exact decide_eq_false h2
  have s3 : (s.toList == [91, 93]) = false := by rw [str_beq]; exact decide_eq_false h3
  have s4 : (s.toList == [123, 125]) = true := by rw [str_beq]; exact decide_eq_true h4
  clear hp h1 h2 h3 h4
  clear h hs hN hk hc
  go_enter Tryd.func17, Tryd.ntmps17
  go_wp2_with (go_at_call 34; refine (HC.out _).mono ?_; rintro e w1 ⟨rfl, rfl⟩)
  all_goals
    go_ret
    exact AddPost.none HT.out (Below.refl _ _)
end Go.Proofs.YtfdcponamkfcaaaDoor
