import Derived.Test.YtpikjceodmepiaaAcm
set_option linter.unusedVariables false
set_option linter.unusedSimpArgs false
namespace Go.Proofs.Ytpikjceodmepiaa
open Go.RowKit Hb Hf
set_option linter.unusedVariables false
set_option linter.unusedSimpArgs false
attribute [local go_sem ↓] Go.wp_at_zero Go.wp_at_succ
/-! ### the reference: wanted, Low, Long, In -/
theorem rb_i (e : Ed) (A : Option Addr) (c : Nat) : (rb e A c).i = infZ e := by cases e <;> rfl
theorem Sb.i {w : World} {P : Nat → Prop} {e : Ed} {b : Bd} (h : Sb w P e b) : b.i = infZ e := by
  obtain ⟨A, c, rfl⟩ := h.is
  exact rb_i e A c
def BP (w : World) (v : Bool) (e : Ending) (w' : World) : Prop := e = .returned (.bool v) ∧ Below w.heap.size w w'
set_option maxHeartbeats 1000000 in
theorem rwanted0 (x y : Bool) (w : World) : Calls Try.prog 78 #[.int .i64 0, .bool x, .bool y] w (BP w (x || y)) := by
  have HB := Lib.hid (Below.refl w.heap.size w)
  cases x <;> cases y
  · go_enter Try.func78, Try.ntmps78
    go_wp2_with fail
    exact bodyPost_ret (v := .bool false) (by simp [results, Try.results78, go_sem]) rfl ⟨rfl, by first | exact HB.out | exact HB.out.drew⟩
  · go_enter Try.func78, Try.ntmps78
    go_wp2_with fail
    exact bodyPost_ret (v := .bool true) (by simp [results, Try.results78, go_sem]) rfl ⟨rfl, by first | exact HB.out | exact HB.out.drew⟩
  · go_enter Try.func78, Try.ntmps78
    go_wp2_with fail
    exact bodyPost_ret (v := .bool true) (by simp [results, Try.results78, go_sem]) rfl ⟨rfl, by first | exact HB.out | exact HB.out.drew⟩
  · go_enter Try.func78, Try.ntmps78
    go_wp2_with fail
    exact bodyPost_ret (v := .bool true) (by simp [results, Try.results78, go_sem]) rfl ⟨rfl, by first | exact HB.out | exact HB.out.drew⟩
theorem any_take {L : List R} {el : R → Bool} {k : Nat} {r : R} (h : (L.take k).any el = false) (hk : L[k]? = some r) (hr : el r = false) : (L.take (k + 1)).any el = false := by
  rw [List.take_add_one, hk, List.any_append, h]
  simp [hr]
theorem any_hit {L : List R} {el : R → Bool} {k : Nat} {r : R} {b : Bool} (h : L.any el = b) (hk : L[k]? = some r) (hr : el r = true) : true = b := by
  rw [← h, eq_comm, List.any_eq_true]
  exact ⟨r, List.mem_of_getElem? hk, hr⟩
def lowR (r : R) : Bool := decide (infZ r.1 < 0) && decide (0 ≤ infZ r.2)
def lngE : Ed → Bool
  | .num z => decide (4096 < (digs 2 z.natAbs).length)
  | _ => false
def lngS (r : R) : Bool := lngE r.1 || lngE r.2
theorem rb_lng (e : Ed) (A : Option Addr) (c : Nat) : (decide ((rb e A c).i = 0) && decide (4096 < (rb e A c).n)) = lngE e := by cases e <;> simp [rb, lngE] <;> rfl
theorem Sb.lng {w : World} {P : Nat → Prop} {e : Ed} {b : Bd} (h : Sb w P e b) : (decide (b.i = 0) && decide (4096 < b.n)) = lngE e := by
  obtain ⟨A, c, rfl⟩ := h.is
  exact rb_lng e A c
set_option maxRecDepth 100000 in
set_option maxHeartbeats 8000000 in
theorem rLow_any {w : World} {P : Nat → Prop} {A : Option Addr} {n c : Nat} {ps : List Rg} (h : RefS w P A n c ps) (hP : ∀ b, P b → b < w.heap.size) :
    Calls Try.prog 79 #[.slice A n c] w (BP w ((ps.map edsS).any lowR)) := by
  have HS := Lib.hid h
  have HP := Lib.hid hP
  have HLn := Lib.hid h.row.len
  have hcap := h.row.cap
  have hmax := h.row.max
  unfold maxLen at hmax
  obtain ⟨B, hB⟩ : ∃ B, w.heap.size = B := ⟨_, rfl⟩
  have HB := Lib.hid hB
  obtain ⟨r, hr⟩ : ∃ r, (ps.map edsS).any lowR = r := ⟨_, rfl⟩
  have HR := Lib.hid hr
  unfold BP
  rw [hr, hB]
  have HI0 := Lib.hid (show Below B w w ∧ ((ps.map edsS).take 0).any lowR = false from ⟨Below.refl _ _, rfl⟩)
  clear h hP hB hr
  go_enter Try.func79, Try.ntmps79
  go_wp2_with fail
  go_loopw [3] (fun vi wr => ∃ k, k ≤ n ∧ vi = .int .i64 (k : Nat) ∧ Hid (Below B w wr ∧ ((ps.map edsS).take k).any lowR = false)) (fun vi _ => n - (intOf vi).toNat)
  case atStart => exact ⟨0, Nat.zero_le _, rfl, HI0⟩
  case round =>
    obtain ⟨k, hk, rfl, HI⟩ := hrel
    clear HI0
    by_cases hkn : k < n
    · obtain ⟨p, hp⟩ : ∃ p, ps[k]? = some p := ⟨ps[k]'(by have := HLn.out; omega), by simp⟩
      obtain ⟨b, o, rfl, hPb, q0, q1, q2, q3, q4, q5⟩ := HS.out.row.at_ hp
      have hbB : b < B := by have := HP.out b hPb; have := HB.out; omega
      have HK := Lib.hid (HS.out.kid p (List.mem_of_getElem? hp))
      have HPk := Lib.hid (show (ps.map edsS)[k]? = some (edsS p) by simp [hp])
      have HQ := Lib.hid (And.intro q0 (And.intro q1 (And.intro q2 (And.intro q3 (And.intro q4 q5)))))
      have hblk := HI.out.1.block b hbB
      have HNo := Lib.hid (fun (he : lowR (edsS p) = false) => any_take HI.out.2 HPk.out he)
      have HYes := Lib.hid (fun (he : lowR (edsS p) = true) => any_hit HR.out HPk.out he)
      have hki : (k : Int) < (n : Int) := by omega
      have hk0 : (0 : Int) ≤ (k : Int) := by omega
      have i0 := (World.cell?_of_block (a := ⟨b, o + k * 6, none⟩) hblk).trans q0
      have i1 := (World.cell?_of_block (a := ⟨b, o + k * 6 + 1, none⟩) hblk).trans q1
      have i2 := (World.cell?_of_block (a := ⟨b, o + k * 6 + 2, none⟩) hblk).trans q2
      have i3 := (World.cell?_of_block (a := ⟨b, o + k * 6 + 3, none⟩) hblk).trans q3
      have i4 := (World.cell?_of_block (a := ⟨b, o + k * 6 + 4, none⟩) hblk).trans q4
      have i5 := (World.cell?_of_block (a := ⟨b, o + k * 6 + 5, none⟩) hblk).trans q5
      clear q0 q1 q2 q3 q4 q5 hp hPb
      have HE := Lib.hid (show lowR (edsS p) = (decide (p.1.i < 0) && decide (0 ≤ p.2.i)) by
        unfold lowR
        rw [HK.out.a.i, HK.out.b.i]
        rfl)
      obtain ⟨⟨p1i, p1g, p1A, p1n, p1c, p1l⟩, ⟨p2i, p2g, p2A, p2n, p2c, p2l⟩⟩ := p
      simp only at i0 i1 i2 i3 i4 i5 HE
      rcases (by omega : (p1i < 0 ∧ 0 ≤ p2i) ∨ (p1i < 0 ∧ ¬ 0 ≤ p2i) ∨ ¬ p1i < 0) with ⟨c1, c2⟩ | ⟨c1, c2⟩ | c1
      · go_wp2_with fail
        exact bodyPost_ret (v := .bool true) (by simp [results, Try.results79, go_sem]) rfl ⟨by rw [← HYes.out (by rw [HE.out]; simp [c1, c2])], HI.out.1⟩
      · go_wp2_with fail
        exact ⟨⟨k + 1, by omega, by go_num, Lib.hid ⟨HI.out.1, HNo.out (by rw [HE.out]; simp [c2])⟩⟩, by simp [intOf]; omega⟩
      · go_wp2_with fail
        exact ⟨⟨k + 1, by omega, by go_num, Lib.hid ⟨HI.out.1, HNo.out (by rw [HE.out]; simp [c1])⟩⟩, by simp [intOf]; omega⟩
    · have hki : ¬ (k : Int) < (n : Int) := by omega
      have hf : false = r := by
        rw [← HR.out, eq_comm]
        have h1 := HI.out.2
        rwa [List.take_of_length_le (by rw [List.length_map, HLn.out]; omega)] at h1
      have HF := Lib.hid hf
      clear hf
      go_wp2_with fail
      exact bodyPost_ret (v := .bool false) (by simp [results, Try.results79, go_sem]) rfl ⟨by rw [← HF.out], HI.out.1⟩
set_option maxRecDepth 100000 in
set_option maxHeartbeats 8000000 in
theorem rLong_set {w : World} {P : Nat → Prop} {A : Option Addr} {n c : Nat} {ps : List Rg} (h : RefS w P A n c ps) (hP : ∀ b, P b → b < w.heap.size) :
    Calls Try.prog 34 #[.slice A n c] w (BP w ((ps.map edsS).any lngS)) := by
  have HS := Lib.hid h
  have HP := Lib.hid hP
  have HLn := Lib.hid h.row.len
  have hcap := h.row.cap
  have hmax := h.row.max
  unfold maxLen at hmax
  obtain ⟨B, hB⟩ : ∃ B, w.heap.size = B := ⟨_, rfl⟩
  have HB := Lib.hid hB
  obtain ⟨r, hr⟩ : ∃ r, (ps.map edsS).any lngS = r := ⟨_, rfl⟩
  have HR := Lib.hid hr
  unfold BP
  rw [hr, hB]
  have HI0 := Lib.hid (show Below B w w ∧ ((ps.map edsS).take 0).any lngS = false from ⟨Below.refl _ _, rfl⟩)
  clear h hP hB hr
  go_enter Try.func34, Try.ntmps34
  go_wp2_with fail
  go_loopw [3] (fun vi wr => ∃ k, k ≤ n ∧ vi = .int .i64 (k : Nat) ∧ Hid (Below B w wr ∧ ((ps.map edsS).take k).any lngS = false)) (fun vi _ => n - (intOf vi).toNat)
  case atStart => exact ⟨0, Nat.zero_le _, rfl, HI0⟩
  case round =>
    obtain ⟨k, hk, rfl, HI⟩ := hrel
    clear HI0
    by_cases hkn : k < n
    · obtain ⟨p, hp⟩ : ∃ p, ps[k]? = some p := ⟨ps[k]'(by have := HLn.out; omega), by simp⟩
      obtain ⟨b, o, rfl, hPb, q0, q1, q2, q3, q4, q5⟩ := HS.out.row.at_ hp
      have hbB : b < B := by have := HP.out b hPb; have := HB.out; omega
      have HK := Lib.hid (HS.out.kid p (List.mem_of_getElem? hp))
      have HPk := Lib.hid (show (ps.map edsS)[k]? = some (edsS p) by simp [hp])
      have HQ := Lib.hid (And.intro q0 (And.intro q1 (And.intro q2 (And.intro q3 (And.intro q4 q5)))))
      have hblk := HI.out.1.block b hbB
      have HNo := Lib.hid (fun (he : lngS (edsS p) = false) => any_take HI.out.2 HPk.out he)
      have HYes := Lib.hid (fun (he : lngS (edsS p) = true) => any_hit HR.out HPk.out he)
      have hki : (k : Int) < (n : Int) := by omega
      have hk0 : (0 : Int) ≤ (k : Int) := by omega
      have i0 := (World.cell?_of_block (a := ⟨b, o + k * 6, none⟩) hblk).trans q0
      have i1 := (World.cell?_of_block (a := ⟨b, o + k * 6 + 1, none⟩) hblk).trans q1
      have i2 := (World.cell?_of_block (a := ⟨b, o + k * 6 + 2, none⟩) hblk).trans q2
      have i3 := (World.cell?_of_block (a := ⟨b, o + k * 6 + 3, none⟩) hblk).trans q3
      have i4 := (World.cell?_of_block (a := ⟨b, o + k * 6 + 4, none⟩) hblk).trans q4
      have i5 := (World.cell?_of_block (a := ⟨b, o + k * 6 + 5, none⟩) hblk).trans q5
      clear q0 q1 q2 q3 q4 q5 hp hPb
      have HE := Lib.hid (show lngS (edsS p) = ((decide (p.1.i = 0) && rlng p.1.n) || (decide (p.2.i = 0) && rlng p.2.n)) by
        unfold rlng
        rw [HK.out.a.lng, HK.out.b.lng]
        rfl)
      have HL := Lib.hid (fun (z : World) => And.intro (rLong_any p.1.g p.1.A p.1.n p.1.c z) (rLong_any p.2.g p.2.A p.2.n p.2.c z))
      obtain ⟨⟨p1i, p1g, p1A, p1n, p1c, p1l⟩, ⟨p2i, p2g, p2A, p2n, p2c, p2l⟩⟩ := p
      simp only at i0 i1 i2 i3 i4 i5 HE HL
      generalize rlng p1n = x at *
      generalize rlng p2n = y at *
      have hsz := HI.out.1.size
      rw [HB.out] at hsz
      rcases (by omega : p1i = 0 ∨ ¬ p1i = 0) with rfl | c1
      · cases x
        · go_wp2_with fail
          (with_reducible refine (HL.out _).1.mono ?_)
          rintro e u1 ⟨he, hb1⟩
          subst he
          have HB1 := Lib.hid (HI.out.1.trans (hb1.mono (by have := HI.out.1.size; have := HB.out; omega)))
          have hblk1 := HB1.out.block b hbB
          have j3 := (World.cell?_of_block (a := ⟨b, o + k * 6 + 3, none⟩) hblk1).trans HQ.out.2.2.2.1
          have j4 := (World.cell?_of_block (a := ⟨b, o + k * 6 + 4, none⟩) hblk1).trans HQ.out.2.2.2.2.1
          have j5 := (World.cell?_of_block (a := ⟨b, o + k * 6 + 5, none⟩) hblk1).trans HQ.out.2.2.2.2.2
          (try simp only at j3 j4 j5)
          rcases (by omega : p2i = 0 ∨ ¬ p2i = 0) with rfl | c2
          · cases y
            · go_wp2_with fail
              (with_reducible refine (HL.out _).2.mono ?_)
              rintro e u2 ⟨he, hb2⟩
              subst he
              have HB2 := Lib.hid (HB1.out.trans (hb2.mono (by have := HB1.out.size; have := HB.out; omega)))
              go_wp2_with fail
              exact ⟨⟨k + 1, by omega, by go_num, Lib.hid ⟨HB2.out, HNo.out (by rw [HE.out]; simp)⟩⟩, by simp [intOf]; omega⟩
            · go_wp2_with fail
              (with_reducible refine (HL.out _).2.mono ?_)
              rintro e u2 ⟨he, hb2⟩
              subst he
              have HB2 := Lib.hid (HB1.out.trans (hb2.mono (by have := HB1.out.size; have := HB.out; omega)))
              go_wp2_with fail
              exact bodyPost_ret (v := .bool true) (by simp [results, Try.results34, go_sem]) rfl ⟨by rw [← HYes.out (by rw [HE.out]; simp)], HB2.out⟩
          · have d2 : (p2i == 0) = false := beq_eq_false_iff_ne.2 c2
            go_wp2_with fail
            exact ⟨⟨k + 1, by omega, by go_num, Lib.hid ⟨HB1.out, HNo.out (by rw [HE.out]; simp [c2])⟩⟩, by simp [intOf]; omega⟩
        · go_wp2_with fail
          (with_reducible refine (HL.out _).1.mono ?_)
          rintro e u1 ⟨he, hb1⟩
          subst he
          have HB1 := Lib.hid (HI.out.1.trans (hb1.mono (by have := HI.out.1.size; have := HB.out; omega)))
          go_wp2_with fail
          exact bodyPost_ret (v := .bool true) (by simp [results, Try.results34, go_sem]) rfl ⟨by rw [← HYes.out (by rw [HE.out]; simp)], HB1.out⟩
      · have d1 : (p1i == 0) = false := beq_eq_false_iff_ne.2 c1
        rcases (by omega : p2i = 0 ∨ ¬ p2i = 0) with rfl | c2
        · cases y
          · go_wp2_with fail
            (with_reducible refine (HL.out _).2.mono ?_)
            rintro e u2 ⟨he, hb2⟩
            subst he
            have HB2 := Lib.hid (HI.out.1.trans (hb2.mono (by have := HI.out.1.size; have := HB.out; omega)))
            go_wp2_with fail
            exact ⟨⟨k + 1, by omega, by go_num, Lib.hid ⟨HB2.out, HNo.out (by rw [HE.out]; simp [c1])⟩⟩, by simp [intOf]; omega⟩
          · go_wp2_with fail
            (with_reducible refine (HL.out _).2.mono ?_)
            rintro e u2 ⟨he, hb2⟩
            subst he
            have HB2 := Lib.hid (HI.out.1.trans (hb2.mono (by have := HI.out.1.size; have := HB.out; omega)))
            go_wp2_with fail
            exact bodyPost_ret (v := .bool true) (by simp [results, Try.results34, go_sem]) rfl ⟨by rw [← HYes.out (by rw [HE.out]; simp [c1])], HB2.out⟩
        · have d2 : (p2i == 0) = false := beq_eq_false_iff_ne.2 c2
          go_wp2_with fail
          exact ⟨⟨k + 1, by omega, by go_num, Lib.hid ⟨HI.out.1, HNo.out (by rw [HE.out]; simp [c1, c2])⟩⟩, by simp [intOf]; omega⟩
    · have hki : ¬ (k : Int) < (n : Int) := by omega
      have hf : false = r := by
        rw [← HR.out, eq_comm]
        have h1 := HI.out.2
        rwa [List.take_of_length_le (by rw [List.length_map, HLn.out]; omega)] at h1
      have HF := Lib.hid hf
      clear hf
      go_wp2_with fail
      exact bodyPost_ret (v := .bool false) (by simp [results, Try.results34, go_sem]) rfl ⟨by rw [← HF.out], HI.out.1⟩
def GBox (w : World) (g : Nat) (x : Bool) (y : Value) : Prop := w.heap[g]? = some (.cells #[.bool x, y] 63 (0, 0))
section
variable {w w' : World} {g : Nat} {x : Bool} {y : Value}
theorem GBox.of_new (x : Bool) (y : Value) : GBox (w.alloc (.cells #[.bool x, y] 63)) w.heap.size x y := heap_alloc_new w _
theorem GBox.lt (h : GBox w g x y) : g < w.heap.size := (Array.getElem?_eq_some_iff.1 h).1
theorem GBox.below (h : GBox w g x y) (hb : Below w.heap.size w w') : GBox w' g x y := (hb.block g h.lt).trans h
theorem GBox.cells (h : GBox w g x y) : w.cell? ⟨g, 0, none⟩ = some (.bool x) ∧ w.cell? ⟨g, 1, none⟩ = some y := by
  refine ⟨?_, ?_⟩ <;> (rw [cell_of_row w g _ _ _ (0, 0) h]; rfl)
end
theorem inB_le {z : Int} {r : R} : inB z r = (decide (leE r.1 (.num z)) && decide (leE (.num z) r.2)) := rfl
set_option maxRecDepth 100000 in
set_option maxHeartbeats 8000000 in
theorem rIn_any {w : World} {P : Nat → Prop} {A : Option Addr} {n c : Nat} {ps : List Rg} {Q : Nat → Prop} {z : Int} {Az : Option Addr} {cz : Nat} (h : RefS w P A n c ps) (hP : ∀ b, P b → b < w.heap.size) (hz : Sb w Q (.num z) (rb (.num z) Az cz)) (hQ : ∀ b, Q b → b < w.heap.size) :
    Calls Try.prog 80 #[.slice A n c, .agg #[.bool (decide (z < 0)), .slice Az (digs 2 z.natAbs).length cz]] w (BP w ((ps.map edsS).any (inB z))) := by
  have HS := Lib.hid h
  have HP := Lib.hid hP
  have HLn := Lib.hid h.row.len
  have hcap := h.row.cap
  have hmax := h.row.max
  unfold maxLen at hmax
  obtain ⟨B, hB⟩ : ∃ B, w.heap.size = B := ⟨_, rfl⟩
  have HB := Lib.hid hB
  obtain ⟨r, hr⟩ : ∃ r, (ps.map edsS).any (inB z) = r := ⟨_, rfl⟩
  have HR := Lib.hid hr
  unfold BP
  rw [hr, hB]
  have HZ := Lib.hid hz
  have HQ0 := Lib.hid hQ
  have HI0 := Lib.hid (show Below B w (w.alloc (.cells #[.bool (decide (z < 0)), .slice Az (digs 2 z.natAbs).length cz] 63)) ∧ ((ps.map edsS).take 0).any (inB z) = false ∧ GBox (w.alloc (.cells #[.bool (decide (z < 0)), .slice Az (digs 2 z.natAbs).length cz] 63)) w.heap.size (decide (z < 0)) (.slice Az (digs 2 z.natAbs).length cz) from ⟨hB ▸ (Below.refl _ _).alloc (Nat.le_refl _) _, rfl, GBox.of_new _ _⟩)
  clear hz hQ
  clear h hP hB hr
  go_enter Try.func80, Try.ntmps80
  go_wp2_with fail
  go_loopw [5] (fun vi wr => ∃ k, k ≤ n ∧ vi = .int .i64 (k : Nat) ∧ Hid (Below B w wr ∧ ((ps.map edsS).take k).any (inB z) = false ∧ GBox wr w.heap.size (decide (z < 0)) (.slice Az (digs 2 z.natAbs).length cz))) (fun vi _ => n - (intOf vi).toNat)
  case atStart => exact ⟨0, Nat.zero_le _, rfl, HI0⟩
  case round =>
    obtain ⟨k, hk, rfl, HI⟩ := hrel
    clear HI0
    by_cases hkn : k < n
    · obtain ⟨p, hp⟩ : ∃ p, ps[k]? = some p := ⟨ps[k]'(by have := HLn.out; omega), by simp⟩
      obtain ⟨b, o, rfl, hPb, q0, q1, q2, q3, q4, q5⟩ := HS.out.row.at_ hp
      have hbB : b < B := by have := HP.out b hPb; have := HB.out; omega
      have HK := Lib.hid (HS.out.kid p (List.mem_of_getElem? hp))
      have HPk := Lib.hid (show (ps.map edsS)[k]? = some (edsS p) by simp [hp])
      have HQ := Lib.hid (And.intro q0 (And.intro q1 (And.intro q2 (And.intro q3 (And.intro q4 q5)))))
      have hblk := HI.out.1.block b hbB
      have HNo := Lib.hid (fun (he : (inB z) (edsS p) = false) => any_take HI.out.2.1 HPk.out he)
      have HYes := Lib.hid (fun (he : (inB z) (edsS p) = true) => any_hit HR.out HPk.out he)
      have hki : (k : Int) < (n : Int) := by omega
      have hk0 : (0 : Int) ≤ (k : Int) := by omega
      clear q0 q1 q2 q3 q4 q5 hp hPb
      have HE := Lib.hid (show inB z (edsS p) = (decide (cmpE p.1.ed2 (.num z) ≤ 0) && decide (cmpE (.num z) p.2.ed2 ≤ 0)) by
        rw [inB_le, decide_eq_decide.2 cmpE_le, decide_eq_decide.2 cmpE_le]
        rfl)
      have HC := Lib.hid (fun (u : World) (hu : Below B w u) => And.intro
        (rCmpE (w := u) (HK.out.a.keep (Q := P) (fun x hx => ⟨hx, hu.block x (by have := HP.out x hx; have := HB.out; omega)⟩)) (HZ.out.keep (Q := Q) (fun x hx => ⟨hx, hu.block x (by have := HQ0.out x hx; have := HB.out; omega)⟩)) (fun x hx => by have := HP.out x hx; have := hu.size; omega) (fun x hx => by have := HQ0.out x hx; have := hu.size; omega))
        (rCmpE (w := u) (HZ.out.keep (Q := Q) (fun x hx => ⟨hx, hu.block x (by have := HQ0.out x hx; have := HB.out; omega)⟩)) (HK.out.b.keep (Q := P) (fun x hx => ⟨hx, hu.block x (by have := HP.out x hx; have := HB.out; omega)⟩)) (fun x hx => by have := HQ0.out x hx; have := hu.size; omega) (fun x hx => by have := HP.out x hx; have := hu.size; omega)))
      obtain ⟨x, hx⟩ : ∃ x, cmpE p.1.ed2 (.num z) = x := ⟨_, rfl⟩
      obtain ⟨y, hy⟩ : ∃ x, cmpE (.num z) p.2.ed2 = x := ⟨_, rfl⟩
      rw [hx, hy] at HC HE
      clear hx hy
      obtain ⟨⟨p1i, p1g, p1A, p1n, p1c, p1l⟩, ⟨p2i, p2g, p2A, p2n, p2c, p2l⟩⟩ := p
      simp only [Bd.v, Bd.vals, rb] at HC
      have HQ := HQ
      have HSz := Lib.hid (show B ≤ wr.heap.size by have := HI.out.1.size; have := HB.out; omega)
      have cell : ∀ (u : World) (j : Nat), Below wr.heap.size wr u → u.cell? ⟨b, j, none⟩ = w.cell? ⟨b, j, none⟩ := fun u j hu => World.cell?_of_block (a := ⟨b, j, none⟩) ((hu.block b (by have := HSz.out; omega)).trans (HI.out.1.block b hbB))
      have HCl := Lib.hid cell
      clear cell hblk
      rcases (by omega : (x ≤ 0 ∧ y ≤ 0) ∨ (x ≤ 0 ∧ ¬ y ≤ 0) ∨ ¬ x ≤ 0) with ⟨c1, c2⟩ | ⟨c1, c2⟩ | c1
      · go_upto_region 4 with fail
        refine wp_region_H (by kernel_rfl) (fun z0 K0 hs0 => ?_)
        refine tkH 0 (v := ?tv0_1) K0 rfl (by kernel_rfl) ?tq0_1 (by kernel_rfl) (fun z5 hS => ?ty0_1) ?_
        case ty0_1 => go_simp; rfl
        case tq0_1 => exact fun _ _ _ h => h
        refine tkH 1 (v := ?tv1_2) K0 rfl (by kernel_rfl) ?tq1_2 (by kernel_rfl) (fun z5 hS => ?ty1_2) ?_
        case ty1_2 => go_simp; rfl
        case tq1_2 => exact fun _ _ _ h => h
        refine tkH 2 (v := ?tv2_3) K0 rfl (by kernel_rfl) ?tq2_3 (by kernel_rfl) (fun z5 hS => ?ty2_3) ?_
        case ty2_3 => go_simp; rfl
        case tq2_3 => exact fun _ _ _ h => h
        refine tkH 3 (v := ?tv3_4) K0 rfl (by kernel_rfl) ?tq3_4 (by kernel_rfl) (fun z5 hS => ?ty3_4) ?_
        case ty3_4 => go_simp; rfl
        case tq3_4 => exact fun _ _ _ h => h
        refine tkH 4 (v := ?tv4_5) K0 rfl (by kernel_rfl) ?tq4_5 (by kernel_rfl) (fun z5 hS => ?ty4_5) ?_
        case ty4_5 => have g0 := (HCl.out z5 (o + k * 6) hS).trans HQ.out.1; have g1 := (HCl.out z5 (o + k * 6 + 1) hS).trans HQ.out.2.1; have g2 := (HCl.out z5 (o + k * 6 + 2) hS).trans HQ.out.2.2.1; (try simp only at g0 g1 g2); go_simp; rfl
        case tq4_5 => exact fun _ _ _ h => h
        refine tkH 5 (v := ?tv5_6) K0 rfl (by kernel_rfl) ?tq5_6 (by kernel_rfl) (fun z5 hS => ?ty5_6) ?_
        case ty5_6 => obtain ⟨q0, q1⟩ := (HI.out.2.2.below hS).cells; go_simp; rfl
        case tq5_6 => exact fun _ _ _ h => h
        refine tkH 6 (v := ?tv6_7) K0 rfl (by kernel_rfl) ?tq6_7 (by kernel_rfl) (fun z5 hS => ?ty6_7) ?_
        case ty6_7 => go_simp; rfl
        case tq6_7 => exact fun _ _ _ h => h
        refine wpAnyH_one (i := 7) (by kernel_rfl) rfl (by kernel_rfl) (fun K hK => ?_)
        go_simp
        (with_reducible refine (HC.out _ (HI.out.1.trans (K0.mono HSz.out))).1.mono ?_)
        rintro e z1 ⟨he, hb1⟩
        subst he
        have K1 := K0.trans (hb1.mono K0.size)
        refine hK.out _ _ K1 ?_
        refine tkH 8 (v := ?tv8_8) K1 rfl (by kernel_rfl) ?tq8_8 (by kernel_rfl) (fun z5 hS => ?ty8_8) ?_
        case ty8_8 => go_simp; rfl
        case tq8_8 => exact fun _ _ _ h => h
        refine tkH 9 (v := ?tv9_9) K1 rfl (by kernel_rfl) ?tq9_9 (by kernel_rfl) (fun z5 hS => ?ty9_9) ?_
        case ty9_9 => go_simp; rfl
        case tq9_9 => exact fun _ _ _ h => h
        refine tkH 10 (v := ?tv10_10) K1 rfl (by kernel_rfl) ?tq10_10 (by kernel_rfl) (fun z5 hS => ?ty10_10) ?_
        case ty10_10 => obtain ⟨q0, q1⟩ := (HI.out.2.2.below hS).cells; go_simp; rfl
        case tq10_10 => exact fun _ _ _ h => h
        refine tkH 11 (v := ?tv11_11) K1 rfl (by kernel_rfl) ?tq11_11 (by kernel_rfl) (fun z5 hS => ?ty11_11) ?_
        case ty11_11 => go_simp; rfl
        case tq11_11 => exact fun _ _ _ h => h
        refine tkH 12 (v := ?tv12_12) K1 rfl (by kernel_rfl) ?tq12_12 (by kernel_rfl) (fun z5 hS => ?ty12_12) ?_
        case ty12_12 => go_simp; rfl
        case tq12_12 => exact fun _ _ _ h => h
        refine tkH 13 (v := ?tv13_13) K1 rfl (by kernel_rfl) ?tq13_13 (by kernel_rfl) (fun z5 hS => ?ty13_13) ?_
        case ty13_13 => go_simp; rfl
        case tq13_13 => exact fun _ _ _ h => h
        refine tkH 14 (v := ?tv14_14) K1 rfl (by kernel_rfl) ?tq14_14 (by kernel_rfl) (fun z5 hS => ?ty14_14) ?_
        case ty14_14 => go_simp; rfl
        case tq14_14 => exact fun _ _ _ h => h
        refine tkH 15 (v := ?tv15_15) K1 rfl (by kernel_rfl) ?tq15_15 (by kernel_rfl) (fun z5 hS => ?ty15_15) ?_
        case ty15_15 => go_simp; rfl
        case tq15_15 => exact fun _ _ _ h => h
        refine tkH 16 (v := ?tv16_16) K1 rfl (by kernel_rfl) ?tq16_16 (by kernel_rfl) (fun z5 hS => ?ty16_16) ?_
        case ty16_16 => have g0 := (HCl.out z5 (o + k * 6 + 3) hS).trans HQ.out.2.2.2.1; have g1 := (HCl.out z5 (o + k * 6 + 4) hS).trans HQ.out.2.2.2.2.1; have g2 := (HCl.out z5 (o + k * 6 + 5) hS).trans HQ.out.2.2.2.2.2; (try simp only at g0 g1 g2); go_simp; rfl
        case tq16_16 => exact fun _ _ _ h => h
        refine wpAnyH_one (i := 17) (by kernel_rfl) rfl (by kernel_rfl) (fun K hK => ?_)
        go_simp
        (with_reducible refine (HC.out _ (HI.out.1.trans (K1.mono HSz.out))).2.mono ?_)
        rintro e z2 ⟨he, hb2⟩
        subst he
        have K2 := K1.trans (hb2.mono K1.size)
        refine hK.out _ _ K2 ?_
        refine tkH 18 (v := ?tv18_17) K2 rfl (by kernel_rfl) ?tq18_17 (by kernel_rfl) (fun z5 hS => ?ty18_17) ?_
        case ty18_17 => go_simp; rfl
        case tq18_17 => exact fun _ _ _ h => h
        refine wpAnyH_one (i := 19) (by kernel_rfl) rfl (by kernel_rfl) (fun K hK => ?_)
        go_simp
        refine hK.out _ _ K2 ?_
        refine wpAnyH_end (by kernel_rfl) ?_ _
        have HBz := Lib.hid (HI.out.1.trans (K2.mono HSz.out))
        have HGz := Lib.hid (HI.out.2.2.below K2)
        clear K0 K1 hb1 hs0 K2 hb2
        go_wp2_with fail
        exact bodyPost_ret (v := .bool true) (by simp [results, Try.results80, go_sem]) rfl ⟨by rw [← HYes.out (by rw [HE.out]; simp [c1, c2])], HBz.out⟩
      · go_upto_region 4 with fail
        refine wp_region_H (by kernel_rfl) (fun z0 K0 hs0 => ?_)
        refine tkH 0 (v := ?tv0_18) K0 rfl (by kernel_rfl) ?tq0_18 (by kernel_rfl) (fun z5 hS => ?ty0_18) ?_
        case ty0_18 => go_simp; rfl
        case tq0_18 => exact fun _ _ _ h => h
        refine tkH 1 (v := ?tv1_19) K0 rfl (by kernel_rfl) ?tq1_19 (by kernel_rfl) (fun z5 hS => ?ty1_19) ?_
        case ty1_19 => go_simp; rfl
        case tq1_19 => exact fun _ _ _ h => h
        refine tkH 2 (v := ?tv2_20) K0 rfl (by kernel_rfl) ?tq2_20 (by kernel_rfl) (fun z5 hS => ?ty2_20) ?_
        case ty2_20 => go_simp; rfl
        case tq2_20 => exact fun _ _ _ h => h
        refine tkH 3 (v := ?tv3_21) K0 rfl (by kernel_rfl) ?tq3_21 (by kernel_rfl) (fun z5 hS => ?ty3_21) ?_
        case ty3_21 => go_simp; rfl
        case tq3_21 => exact fun _ _ _ h => h
        refine tkH 4 (v := ?tv4_22) K0 rfl (by kernel_rfl) ?tq4_22 (by kernel_rfl) (fun z5 hS => ?ty4_22) ?_
        case ty4_22 => have g0 := (HCl.out z5 (o + k * 6) hS).trans HQ.out.1; have g1 := (HCl.out z5 (o + k * 6 + 1) hS).trans HQ.out.2.1; have g2 := (HCl.out z5 (o + k * 6 + 2) hS).trans HQ.out.2.2.1; (try simp only at g0 g1 g2); go_simp; rfl
        case tq4_22 => exact fun _ _ _ h => h
        refine tkH 5 (v := ?tv5_23) K0 rfl (by kernel_rfl) ?tq5_23 (by kernel_rfl) (fun z5 hS => ?ty5_23) ?_
        case ty5_23 => obtain ⟨q0, q1⟩ := (HI.out.2.2.below hS).cells; go_simp; rfl
        case tq5_23 => exact fun _ _ _ h => h
        refine tkH 6 (v := ?tv6_24) K0 rfl (by kernel_rfl) ?tq6_24 (by kernel_rfl) (fun z5 hS => ?ty6_24) ?_
        case ty6_24 => go_simp; rfl
        case tq6_24 => exact fun _ _ _ h => h
        refine wpAnyH_one (i := 7) (by kernel_rfl) rfl (by kernel_rfl) (fun K hK => ?_)
        go_simp
        (with_reducible refine (HC.out _ (HI.out.1.trans (K0.mono HSz.out))).1.mono ?_)
        rintro e z1 ⟨he, hb1⟩
        subst he
        have K1 := K0.trans (hb1.mono K0.size)
        refine hK.out _ _ K1 ?_
        refine tkH 8 (v := ?tv8_25) K1 rfl (by kernel_rfl) ?tq8_25 (by kernel_rfl) (fun z5 hS => ?ty8_25) ?_
        case ty8_25 => go_simp; rfl
        case tq8_25 => exact fun _ _ _ h => h
        refine tkH 9 (v := ?tv9_26) K1 rfl (by kernel_rfl) ?tq9_26 (by kernel_rfl) (fun z5 hS => ?ty9_26) ?_
        case ty9_26 => go_simp; rfl
        case tq9_26 => exact fun _ _ _ h => h
        refine tkH 10 (v := ?tv10_27) K1 rfl (by kernel_rfl) ?tq10_27 (by kernel_rfl) (fun z5 hS => ?ty10_27) ?_
        case ty10_27 => obtain ⟨q0, q1⟩ := (HI.out.2.2.below hS).cells; go_simp; rfl
        case tq10_27 => exact fun _ _ _ h => h
        refine tkH 11 (v := ?tv11_28) K1 rfl (by kernel_rfl) ?tq11_28 (by kernel_rfl) (fun z5 hS => ?ty11_28) ?_
        case ty11_28 => go_simp; rfl
        case tq11_28 => exact fun _ _ _ h => h
        refine tkH 12 (v := ?tv12_29) K1 rfl (by kernel_rfl) ?tq12_29 (by kernel_rfl) (fun z5 hS => ?ty12_29) ?_
        case ty12_29 => go_simp; rfl
        case tq12_29 => exact fun _ _ _ h => h
        refine tkH 13 (v := ?tv13_30) K1 rfl (by kernel_rfl) ?tq13_30 (by kernel_rfl) (fun z5 hS => ?ty13_30) ?_
        case ty13_30 => go_simp; rfl
        case tq13_30 => exact fun _ _ _ h => h
        refine tkH 14 (v := ?tv14_31) K1 rfl (by kernel_rfl) ?tq14_31 (by kernel_rfl) (fun z5 hS => ?ty14_31) ?_
        case ty14_31 => go_simp; rfl
        case tq14_31 => exact fun _ _ _ h => h
        refine tkH 15 (v := ?tv15_32) K1 rfl (by kernel_rfl) ?tq15_32 (by kernel_rfl) (fun z5 hS => ?ty15_32) ?_
        case ty15_32 => go_simp; rfl
        case tq15_32 => exact fun _ _ _ h => h
        refine tkH 16 (v := ?tv16_33) K1 rfl (by kernel_rfl) ?tq16_33 (by kernel_rfl) (fun z5 hS => ?ty16_33) ?_
        case ty16_33 => have g0 := (HCl.out z5 (o + k * 6 + 3) hS).trans HQ.out.2.2.2.1; have g1 := (HCl.out z5 (o + k * 6 + 4) hS).trans HQ.out.2.2.2.2.1; have g2 := (HCl.out z5 (o + k * 6 + 5) hS).trans HQ.out.2.2.2.2.2; (try simp only at g0 g1 g2); go_simp; rfl
        case tq16_33 => exact fun _ _ _ h => h
        refine wpAnyH_one (i := 17) (by kernel_rfl) rfl (by kernel_rfl) (fun K hK => ?_)
        go_simp
        (with_reducible refine (HC.out _ (HI.out.1.trans (K1.mono HSz.out))).2.mono ?_)
        rintro e z2 ⟨he, hb2⟩
        subst he
        have K2 := K1.trans (hb2.mono K1.size)
        refine hK.out _ _ K2 ?_
        refine tkH 18 (v := ?tv18_34) K2 rfl (by kernel_rfl) ?tq18_34 (by kernel_rfl) (fun z5 hS => ?ty18_34) ?_
        case ty18_34 => go_simp; rfl
        case tq18_34 => exact fun _ _ _ h => h
        refine wpAnyH_one (i := 19) (by kernel_rfl) rfl (by kernel_rfl) (fun K hK => ?_)
        go_simp
        refine hK.out _ _ K2 ?_
        refine wpAnyH_end (by kernel_rfl) ?_ _
        have HBz := Lib.hid (HI.out.1.trans (K2.mono HSz.out))
        have HGz := Lib.hid (HI.out.2.2.below K2)
        clear K0 K1 hb1 hs0 K2 hb2
        go_wp2_with fail
        exact ⟨⟨k + 1, by omega, by go_num, Lib.hid ⟨HBz.out, HNo.out (by rw [HE.out]; simp [c2]), HGz.out⟩⟩, by simp [intOf]; omega⟩
      · go_upto_region 4 with fail
        refine wp_region_H (by kernel_rfl) (fun z0 K0 hs0 => ?_)
        refine tkH 0 (v := ?tv0_35) K0 rfl (by kernel_rfl) ?tq0_35 (by kernel_rfl) (fun z5 hS => ?ty0_35) ?_
        case ty0_35 => go_simp; rfl
        case tq0_35 => exact fun _ _ _ h => h
        refine tkH 1 (v := ?tv1_36) K0 rfl (by kernel_rfl) ?tq1_36 (by kernel_rfl) (fun z5 hS => ?ty1_36) ?_
        case ty1_36 => go_simp; rfl
        case tq1_36 => exact fun _ _ _ h => h
        refine tkH 2 (v := ?tv2_37) K0 rfl (by kernel_rfl) ?tq2_37 (by kernel_rfl) (fun z5 hS => ?ty2_37) ?_
        case ty2_37 => go_simp; rfl
        case tq2_37 => exact fun _ _ _ h => h
        refine tkH 3 (v := ?tv3_38) K0 rfl (by kernel_rfl) ?tq3_38 (by kernel_rfl) (fun z5 hS => ?ty3_38) ?_
        case ty3_38 => go_simp; rfl
        case tq3_38 => exact fun _ _ _ h => h
        refine tkH 4 (v := ?tv4_39) K0 rfl (by kernel_rfl) ?tq4_39 (by kernel_rfl) (fun z5 hS => ?ty4_39) ?_
        case ty4_39 => have g0 := (HCl.out z5 (o + k * 6) hS).trans HQ.out.1; have g1 := (HCl.out z5 (o + k * 6 + 1) hS).trans HQ.out.2.1; have g2 := (HCl.out z5 (o + k * 6 + 2) hS).trans HQ.out.2.2.1; (try simp only at g0 g1 g2); go_simp; rfl
        case tq4_39 => exact fun _ _ _ h => h
        refine tkH 5 (v := ?tv5_40) K0 rfl (by kernel_rfl) ?tq5_40 (by kernel_rfl) (fun z5 hS => ?ty5_40) ?_
        case ty5_40 => obtain ⟨q0, q1⟩ := (HI.out.2.2.below hS).cells; go_simp; rfl
        case tq5_40 => exact fun _ _ _ h => h
        refine tkH 6 (v := ?tv6_41) K0 rfl (by kernel_rfl) ?tq6_41 (by kernel_rfl) (fun z5 hS => ?ty6_41) ?_
        case ty6_41 => go_simp; rfl
        case tq6_41 => exact fun _ _ _ h => h
        refine wpAnyH_one (i := 7) (by kernel_rfl) rfl (by kernel_rfl) (fun K hK => ?_)
        go_simp
        (with_reducible refine (HC.out _ (HI.out.1.trans (K0.mono HSz.out))).1.mono ?_)
        rintro e z1 ⟨he, hb1⟩
        subst he
        have K1 := K0.trans (hb1.mono K0.size)
        refine hK.out _ _ K1 ?_
        refine tkH 8 (v := ?tv8_42) K1 rfl (by kernel_rfl) ?tq8_42 (by kernel_rfl) (fun z5 hS => ?ty8_42) ?_
        case ty8_42 => go_simp; rfl
        case tq8_42 => exact fun _ _ _ h => h
        refine tkH 9 (v := ?tv9_43) K1 rfl (by kernel_rfl) ?tq9_43 (by kernel_rfl) (fun z5 hS => ?ty9_43) ?_
        case ty9_43 => go_simp; rfl
        case tq9_43 => exact fun _ _ _ h => h
        refine tkI 10 K1 rfl (by kernel_rfl) (fun _ _ _ h => h) (by kernel_rfl) ?_
        refine tkI 11 K1 rfl (by kernel_rfl) (fun _ _ _ h => h) (by kernel_rfl) ?_
        refine tkI 12 K1 rfl (by kernel_rfl) (fun _ _ _ h => h) (by kernel_rfl) ?_
        refine tkI 13 K1 rfl (by kernel_rfl) (fun _ _ _ h => h) (by kernel_rfl) ?_
        refine tkI 14 K1 rfl (by kernel_rfl) (fun _ _ _ h => h) (by kernel_rfl) ?_
        refine tkI 15 K1 rfl (by kernel_rfl) (fun _ _ _ h => h) (by kernel_rfl) ?_
        refine tkI 16 K1 rfl (by kernel_rfl) (fun _ _ _ h => h) (by kernel_rfl) ?_
        refine tkI 17 K1 rfl (by kernel_rfl) (fun _ _ _ h => h) (by kernel_rfl) ?_
        refine tkI 18 K1 rfl (by kernel_rfl) (fun _ _ _ h => h) (by kernel_rfl) ?_
        refine wpAnyH_one (i := 19) (by kernel_rfl) rfl (by kernel_rfl) (fun K hK => ?_)
        go_simp
        refine hK.out _ _ K1 ?_
        refine wpAnyH_end (by kernel_rfl) ?_ _
        have HBz := Lib.hid (HI.out.1.trans (K1.mono HSz.out))
        have HGz := Lib.hid (HI.out.2.2.below K1)
        clear K0 K1 hb1 hs0
        go_wp2_with fail
        exact ⟨⟨k + 1, by omega, by go_num, Lib.hid ⟨HBz.out, HNo.out (by rw [HE.out]; simp [c1]), HGz.out⟩⟩, by simp [intOf]; omega⟩
    · have hki : ¬ (k : Int) < (n : Int) := by omega
      have hf : false = r := by
        rw [← HR.out, eq_comm]
        have h1 := HI.out.2.1
        rwa [List.take_of_length_le (by rw [List.length_map, HLn.out]; omega)] at h1
      have HF := Lib.hid hf
      clear hf
      go_wp2_with fail
      exact bodyPost_ret (v := .bool false) (by simp [results, Try.results80, go_sem]) rfl ⟨by rw [← HF.out], HI.out.1⟩
end Go.Proofs.Ytpikjceodmepiaa

