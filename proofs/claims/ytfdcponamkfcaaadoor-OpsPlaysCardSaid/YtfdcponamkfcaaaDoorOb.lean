import Derived.Test.YtfdcponamkfcaaaDoorOa
namespace Go.Proofs.YtfdcponamkfcaaaDoor
open Go.RowKit Ho Go.Maps
set_option linter.unusedVariables false
set_option linter.unusedSimpArgs false

theorem TabAt.below {w w' : World} {g b1 b2 b3 N : Nat} {L : List OpV} (h : TabAt w g b1 b2 b3 N L) (hb : Below w.heap.size w w') : TabAt w' g b1 b2 b3 N L := by
  obtain ⟨h0, m1, m2, m3, hd⟩ := h
  exact ⟨(hb.block g (Array.getElem?_eq_some_iff.1 h0).1).trans h0, m1.below hb m1.lt, m2.below hb m2.lt, m3.below hb m3.lt, hd⟩
theorem TabAt.lt {w : World} {g b1 b2 b3 N : Nat} {L : List OpV} (h : TabAt w g b1 b2 b3 N L) : g < w.heap.size := (Array.getElem?_eq_some_iff.1 h.1).1
/-- no block of it is a block of cells but its own -/
theorem TabAt.ne {w : World} {g b1 b2 b3 N : Nat} {L : List OpV} (h : TabAt w g b1 b2 b3 N L) {p : Nat} {xs : Array Value} {t : TypeId} {k : Nat × Nat} (hp : w.heap[p]? = some (.cells xs t k)) : b1 ≠ p ∧ b2 ≠ p ∧ b3 ≠ p := by
  obtain ⟨h0, ⟨_, ⟨_, _, m1, _⟩, _⟩, ⟨_, ⟨_, _, m2, _⟩, _⟩, ⟨_, ⟨_, _, m3, _⟩, _⟩, _⟩ := h
  exact ⟨(fun e => by rw [e, hp] at m1; cases m1), (fun e => by rw [e, hp] at m2; cases m2), (fun e => by rw [e, hp] at m3; cases m3)⟩
theorem opV_parts (x : OpV) : ∃ nm xt xp, opV x = .agg #[.string nm, .int .i64 xt, .int .i64 xp] := ⟨_, _, _, rfl⟩
/-! ### Prefix, Infix, Postfix -/
set_option maxRecDepth 100000 in
theorem Prefix_any {w : World} {g b1 b2 b3 N : Nat} {L : List OpV} (h : TabAt w g b1 b2 b3 N L) {s : ByteArray} (hs : s.size ≤ maxLen) :
    Calls Tryd.prog 30 #[.pointer (some ⟨g, 0, none⟩), .string s] w (FindPost w (Ho.find L (0 + 1) s.data.toList)) := by
  have hb1 : Below w.heap.size w (w.alloc (.cells #[.string ⟨#[]⟩, .int .i64 0, .int .i64 0] 23)) := (Below.refl _ _).alloc (Nat.le_refl _) _
  have HF := Lib.hid (show Calls Tryd.prog 35 #[.pointer (some ⟨g, 0, none⟩), .int .i64 0, .string s] _ (FindPost _ (Ho.find L (0 + 1) s.data.toList)) from find_any (h.below hb1) (c := 0) (by decide) hs)
  have hz := heap_alloc_new w (.cells #[.string ⟨#[]⟩, .int .i64 0, .int .i64 0] 23)
  have HZ := Lib.hid hz
  have HB := Lib.hid hb1
  have hsz : w.heap.size < (w.alloc (.cells #[.string ⟨#[]⟩, .int .i64 0, .int .i64 0] 23)).heap.size := by simp
  clear h hs hb1 hz
  generalize Ho.find L (0 + 1) s.data.toList = r at *
  go_enter Tryd.func30, Tryd.ntmps30
  go_wp2_with fail
  (with_reducible refine HF.out.mono ?_)
  rintro ex w2 ⟨rfl, hb2⟩
  obtain ⟨nm, xt, xp, hX⟩ := opV_parts (r.getD zeroOp)
  have HP := Lib.hid hX
  rw [hX]
  clear hX
  have h3 := (hb2.block _ hsz).trans HZ.out
  have q0 : w2.cell? ⟨w.heap.size, 0, none⟩ = some (.string ⟨#[]⟩) := by rw [cell_of_row w2 _ 0 _ _ (0, 0) h3]; rfl
  have q1 : w2.cell? ⟨w.heap.size, 1, none⟩ = some (.int .i64 0) := by rw [cell_of_row w2 _ 1 _ _ (0, 0) h3]; rfl
  have q2 : w2.cell? ⟨w.heap.size, 2, none⟩ = some (.int .i64 0) := by rw [cell_of_row w2 _ 2 _ _ (0, 0) h3]; rfl
  have f0 : w2.frozen? ⟨w.heap.size, 0, none⟩ = false := by simp [World.frozen?, h3]
  have f1 : w2.frozen? ⟨w.heap.size, 1, none⟩ = false := by simp [World.frozen?, h3]
  have f2 : w2.frozen? ⟨w.heap.size, 2, none⟩ = false := by simp [World.frozen?, h3]
  have HB2 := Lib.hid (HB.out.trans (hb2.mono HB.out.size))
  clear hb2 h3
  obtain ⟨ok, hok⟩ : ∃ k, r.isSome = k := ⟨_, rfl⟩
  have HO := Lib.hid hok
  rw [hok]
  clear hok
  go_wp2
  exact bodyPost_ret (v := .tuple #[.agg #[.string nm, .int .i64 xt, .int .i64 xp], .bool ok]) (by simp [results, Tryd.results30, go_sem, q0, q1, q2]) rfl ⟨by rw [HP.out, HO.out], ((HB2.out.setCell (Nat.le_refl _) _).setCell (Nat.le_refl _) _).setCell (Nat.le_refl _) _⟩
set_option maxRecDepth 100000 in
theorem Infix_any {w : World} {g b1 b2 b3 N : Nat} {L : List OpV} (h : TabAt w g b1 b2 b3 N L) {s : ByteArray} (hs : s.size ≤ maxLen) :
    Calls Tryd.prog 18 #[.pointer (some ⟨g, 0, none⟩), .string s] w (FindPost w (Ho.find L (1 + 1) s.data.toList)) := by
  have hb1 : Below w.heap.size w (w.alloc (.cells #[.string ⟨#[]⟩, .int .i64 0, .int .i64 0] 23)) := (Below.refl _ _).alloc (Nat.le_refl _) _
  have HF := Lib.hid (show Calls Tryd.prog 35 #[.pointer (some ⟨g, 0, none⟩), .int .i64 1, .string s] _ (FindPost _ (Ho.find L (1 + 1) s.data.toList)) from find_any (h.below hb1) (c := 1) (by decide) hs)
  have hz := heap_alloc_new w (.cells #[.string ⟨#[]⟩, .int .i64 0, .int .i64 0] 23)
  have HZ := Lib.hid hz
  have HB := Lib.hid hb1
  have hsz : w.heap.size < (w.alloc (.cells #[.string ⟨#[]⟩, .int .i64 0, .int .i64 0] 23)).heap.size := by simp
  clear h hs hb1 hz
  generalize Ho.find L (1 + 1) s.data.toList = r at *
  go_enter Tryd.func18, Tryd.ntmps18
  go_wp2_with fail
  (with_reducible refine HF.out.mono ?_)
  rintro ex w2 ⟨rfl, hb2⟩
  obtain ⟨nm, xt, xp, hX⟩ := opV_parts (r.getD zeroOp)
  have HP := Lib.hid hX
  rw [hX]
  clear hX
  have h3 := (hb2.block _ hsz).trans HZ.out
  have q0 : w2.cell? ⟨w.heap.size, 0, none⟩ = some (.string ⟨#[]⟩) := by rw [cell_of_row w2 _ 0 _ _ (0, 0) h3]; rfl
  have q1 : w2.cell? ⟨w.heap.size, 1, none⟩ = some (.int .i64 0) := by rw [cell_of_row w2 _ 1 _ _ (0, 0) h3]; rfl
  have q2 : w2.cell? ⟨w.heap.size, 2, none⟩ = some (.int .i64 0) := by rw [cell_of_row w2 _ 2 _ _ (0, 0) h3]; rfl
  have f0 : w2.frozen? ⟨w.heap.size, 0, none⟩ = false := by simp [World.frozen?, h3]
  have f1 : w2.frozen? ⟨w.heap.size, 1, none⟩ = false := by simp [World.frozen?, h3]
  have f2 : w2.frozen? ⟨w.heap.size, 2, none⟩ = false := by simp [World.frozen?, h3]
  have HB2 := Lib.hid (HB.out.trans (hb2.mono HB.out.size))
  clear hb2 h3
  obtain ⟨ok, hok⟩ : ∃ k, r.isSome = k := ⟨_, rfl⟩
  have HO := Lib.hid hok
  rw [hok]
  clear hok
  go_wp2
  exact bodyPost_ret (v := .tuple #[.agg #[.string nm, .int .i64 xt, .int .i64 xp], .bool ok]) (by simp [results, Tryd.results18, go_sem, q0, q1, q2]) rfl ⟨by rw [HP.out, HO.out], ((HB2.out.setCell (Nat.le_refl _) _).setCell (Nat.le_refl _) _).setCell (Nat.le_refl _) _⟩
set_option maxRecDepth 100000 in
theorem Postfix_any {w : World} {g b1 b2 b3 N : Nat} {L : List OpV} (h : TabAt w g b1 b2 b3 N L) {s : ByteArray} (hs : s.size ≤ maxLen) :
    Calls Tryd.prog 19 #[.pointer (some ⟨g, 0, none⟩), .string s] w (FindPost w (Ho.find L (2 + 1) s.data.toList)) := by
  have hb1 : Below w.heap.size w (w.alloc (.cells #[.string ⟨#[]⟩, .int .i64 0, .int .i64 0] 23)) := (Below.refl _ _).alloc (Nat.le_refl _) _
  have HF := Lib.hid (show Calls Tryd.prog 35 #[.pointer (some ⟨g, 0, none⟩), .int .i64 2, .string s] _ (FindPost _ (Ho.find L (2 + 1) s.data.toList)) from find_any (h.below hb1) (c := 2) (by decide) hs)
  have hz := heap_alloc_new w (.cells #[.string ⟨#[]⟩, .int .i64 0, .int .i64 0] 23)
  have HZ := Lib.hid hz
  have HB := Lib.hid hb1
  have hsz : w.heap.size < (w.alloc (.cells #[.string ⟨#[]⟩, .int .i64 0, .int .i64 0] 23)).heap.size := by simp
  clear h hs hb1 hz
  generalize Ho.find L (2 + 1) s.data.toList = r at *
  go_enter Tryd.func19, Tryd.ntmps19
  go_wp2_with fail
  (with_reducible refine HF.out.mono ?_)
  rintro ex w2 ⟨rfl, hb2⟩
  obtain ⟨nm, xt, xp, hX⟩ := opV_parts (r.getD zeroOp)
  have HP := Lib.hid hX
  rw [hX]
  clear hX
  have h3 := (hb2.block _ hsz).trans HZ.out
  have q0 : w2.cell? ⟨w.heap.size, 0, none⟩ = some (.string ⟨#[]⟩) := by rw [cell_of_row w2 _ 0 _ _ (0, 0) h3]; rfl
  have q1 : w2.cell? ⟨w.heap.size, 1, none⟩ = some (.int .i64 0) := by rw [cell_of_row w2 _ 1 _ _ (0, 0) h3]; rfl
  have q2 : w2.cell? ⟨w.heap.size, 2, none⟩ = some (.int .i64 0) := by rw [cell_of_row w2 _ 2 _ _ (0, 0) h3]; rfl
  have f0 : w2.frozen? ⟨w.heap.size, 0, none⟩ = false := by simp [World.frozen?, h3]
  have f1 : w2.frozen? ⟨w.heap.size, 1, none⟩ = false := by simp [World.frozen?, h3]
  have f2 : w2.frozen? ⟨w.heap.size, 2, none⟩ = false := by simp [World.frozen?, h3]
  have HB2 := Lib.hid (HB.out.trans (hb2.mono HB.out.size))
  clear hb2 h3
  obtain ⟨ok, hok⟩ : ∃ k, r.isSome = k := ⟨_, rfl⟩
  have HO := Lib.hid hok
  rw [hok]
  clear hok
  go_wp2
  exact bodyPost_ret (v := .tuple #[.agg #[.string nm, .int .i64 xt, .int .i64 xp], .bool ok]) (by simp [results, Tryd.results19, go_sem, q0, q1, q2]) rfl ⟨by rw [HP.out, HO.out], ((HB2.out.setCell (Nat.le_refl _) _).setCell (Nat.le_refl _) _).setCell (Nat.le_refl _) _⟩
end Go.Proofs.YtfdcponamkfcaaaDoor
