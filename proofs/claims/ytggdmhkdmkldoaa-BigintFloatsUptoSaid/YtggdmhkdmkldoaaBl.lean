import Derived.Test.YtggdmhkdmkldoaaBk
namespace Go.Proofs.Ytggdmhkdmkldoaa
open Go.RowKit Hb

abbrev zeroV : Value := .agg #[.bool false, .slice none 0 0]
/-- an integer and a code: 0, or the error, beside which the integer is nought -/
def PostC (w : World) (z : Int) (code : Int) (e : Ending) (w' : World) : Prop :=
  ∃ v, e = .returned (.tuple #[v, .int .i64 code]) ∧ (code = 0 → ResI w' w.heap.size v z) ∧ (code ≠ 0 → v = zeroV) ∧ Below w.heap.size w w'
theorem PostC.ok {w w' : World} {z co : Int} {v : Value} (hco : co = 0) (hr : ResI w' w.heap.size v z) (hb : Below w.heap.size w w') : PostC w z co (.returned (.tuple #[v, .int .i64 0])) w' := by
  subst hco; exact ⟨v, rfl, fun _ => hr, fun h => absurd rfl h, hb⟩
theorem PostC.bad {w w' : World} {z co k : Int} (hco : co = k) (hk : k ≠ 0) (hb : Below w.heap.size w w') : PostC w z co (.returned (.tuple #[zeroV, .int .i64 k])) w' := by
  subst hco; exact ⟨zeroV, rfl, fun h => absurd h hk, fun _ => rfl, hb⟩
def tooLong (z : Int) : Bool := decide (4096 < blen z.natAbs)
def err (b : Bool) : Int := if b then 10 else 0

/-- the world in which a function of two integers has boxed them, made its result's variable, and laid both in a slice -/
abbrev W2 (w : World) (na nb : Bool) (A A' : Option Addr) (n c n' c' : Nat) : World :=
  (((w.alloc (.cells #[.bool na, .slice A n c] 24)).alloc (.cells #[.bool nb, .slice A' n' c'] 24)).alloc (.cells #[.bool false, .slice none 0 0] 24)).alloc (.cells #[.bool na, .slice A n c, .bool nb, .slice A' n' c'] 24)
theorem W2_below (w : World) (na nb : Bool) (A A' : Option Addr) (n c n' c' : Nat) : Below w.heap.size w (W2 w na nb A A' n c n' c') :=
  ((((Below.refl w.heap.size w).alloc (Nat.le_refl _) _).alloc (by simp) _).alloc (by simp; omega) _).alloc (by simp; omega) _
theorem heap_fourth (w : World) (a b c d : Obj) : ((((w.alloc a).alloc b).alloc c).alloc d).heap[w.heap.size + 1 + 1 + 1]? = some d := by
  have := heap_alloc_new (((w.alloc a).alloc b).alloc c) d
  simpa using this
theorem W2_cells {w w2 : World} {na nb : Bool} {A A' : Option Addr} {n c n' c' C : Nat} (hb : Below C (W2 w na nb A A' n c n' c') w2) (hC : w.heap.size + 1 + 1 + 1 + 1 ≤ C) :
    (w2.cell? ⟨w.heap.size, 0, none⟩ = some (.bool na) ∧ w2.cell? ⟨w.heap.size, 1, none⟩ = some (.slice A n c)) ∧ (w2.cell? ⟨w.heap.size + 1, 0, none⟩ = some (.bool nb) ∧ w2.cell? ⟨w.heap.size + 1, 1, none⟩ = some (.slice A' n' c')) ∧
    (w2.cell? ⟨w.heap.size + 1 + 1, 0, none⟩ = some (.bool false) ∧ w2.cell? ⟨w.heap.size + 1 + 1, 1, none⟩ = some (.slice none 0 0) ∧ w2.frozen? ⟨w.heap.size + 1 + 1, 0, none⟩ = false ∧ w2.frozen? ⟨w.heap.size + 1 + 1, 1, none⟩ = false) := by
  refine three_boxes (t := 24) (W := (((w.alloc (.cells #[.bool na, .slice A n c] 24)).alloc (.cells #[.bool nb, .slice A' n' c'] 24)).alloc (.cells #[.bool false, .slice none 0 0] 24))) (C := w.heap.size + 3) (Dr.refl _) ?_ (Nat.le_refl _)
  exact ((Below.refl _ _).alloc (by simp) _).trans (hb.mono (by omega))
theorem W2_held {w w2 : World} {na nb : Bool} {A A' : Option Addr} {n c n' c' : Nat} (hb : Below (w.heap.size + 1 + 1) (W2 w na nb A A' n c n' c') w2) :
    (w2.cell? ⟨w.heap.size, 0, none⟩ = some (.bool na) ∧ w2.cell? ⟨w.heap.size, 1, none⟩ = some (.slice A n c)) ∧ (w2.cell? ⟨w.heap.size + 1, 0, none⟩ = some (.bool nb) ∧ w2.cell? ⟨w.heap.size + 1, 1, none⟩ = some (.slice A' n' c')) := by
  have h := W2_cells (Below.refl (w.heap.size + 1 + 1 + 1 + 1) (W2 w na nb A A' n c n' c')) (Nat.le_refl _)
  exact ⟨⟨(hb.cell (by first | omega | (simp; done) | (simp; omega))).trans h.1.1, (hb.cell (by first | omega | (simp; done) | (simp; omega))).trans h.1.2⟩, (hb.cell (by first | omega | (simp; done) | (simp; omega))).trans h.2.1.1, (hb.cell (by first | omega | (simp; done) | (simp; omega))).trans h.2.1.2⟩
theorem W2_long {w : World} {na nb : Bool} {B B' : Nat} {A A' : Option Addr} {l m : List Nat} {n c n' c' : Nat} (hs : SlU w B A n c l) (ht : SlU w B' A' n' c' m) (hn : n ≤ 67108864) (hn' : n' ≤ 67108864) (hB : B ≤ w.heap.size) (hB' : B' ≤ w.heap.size) :
    Calls Try.prog 69 #[.slice (some ⟨w.heap.size + 1 + 1 + 1, 0, none⟩) 2 2] (W2 w na nb A A' n c n' c') (LongPost (lng l || lng m) (W2 w na nb A A' n c n' c')) := by
  have hb := W2_below w na nb A A' n c n' c'
  have hg := heap_fourth w (.cells #[.bool na, .slice A n c] 24) (.cells #[.bool nb, .slice A' n' c'] 24) (.cells #[.bool false, .slice none 0 0] 24) (.cells #[.bool na, .slice A n c, .bool nb, .slice A' n' c'] 24)
  exact long2_any (neg := na) (neg' := nb) (hs.below hb hB) hn (Nat.le_trans hB hb.size) (ht.below hb hB') hn' (Nat.le_trans hB' hb.size)
    (cell_of_row _ _ 0 _ _ (0, 0) hg) (cell_of_row _ _ 1 _ _ (0, 0) hg) (cell_of_row _ _ 2 _ _ (0, 0) hg) (cell_of_row _ _ 3 _ _ (0, 0) hg)

/-- what becomes of a sum, a product ..: handed on by kept -/
theorem kept_res {w1 : World} {B : Nat} {A2 : Option Addr} {c2 : Nat} {z : Int} (ho : OwnU w1 B A2 (digs W z.natAbs).length c2 (u32s (digs W z.natAbs))) (hl : (digs W z.natAbs).length ≤ 67108864) :
    Calls Try.prog 83 #[.agg #[.bool (decide (z < 0)), .slice A2 (digs W z.natAbs).length c2]] w1
      (KeptPost (if tooLong z then zeroV else .agg #[.bool (decide (z < 0)), .slice A2 (digs W z.natAbs).length c2]) (err (tooLong z)) w1) := by
  have := kept_any (neg := decide (z < 0)) (ho.sl (dig_digs (by decide) _) rfl) hl (Nat.le_refl _)
  rw [lng_digs] at this
  exact this
theorem digs_add_len {x y : Int} {k : Nat} (hx : x.natAbs < W ^ k) (hy : y.natAbs < W ^ k) : (digs W (x + y).natAbs).length ≤ k + 1 := by
  refine digs_length_le (by decide) ?_
  rw [Nat.pow_succ]
  have : (x + y).natAbs ≤ x.natAbs + y.natAbs := Int.natAbs_add_le x y
  have h2 : W ^ k * 2 ≤ W ^ k * W := Nat.mul_le_mul_left _ (by decide)
  omega
theorem ival_lt {neg : Bool} {l : List Nat} (hd : Dig W l) {k : Nat} (h : l.length ≤ k) : (ival neg l).natAbs < W ^ k := by
  rw [ival_natAbs]
  exact Nat.lt_of_lt_of_le (nv_lt hd) (Nat.pow_le_pow_right (by decide) h)

set_option maxHeartbeats 1000000 in
theorem Add_any (na nb : Bool) {B B' : Nat} {A A' : Option Addr} {l m : List Nat} {n c n' c' : Nat} {w : World} (hs : SlU w B A n c l) (ht : SlU w B' A' n' c' m) (hn : n ≤ 67108863) (hn' : n' ≤ 67108863) (hB : B ≤ w.heap.size) (hB' : B' ≤ w.heap.size) :
    Calls Try.prog 47 #[.agg #[.bool na, .slice A n c], .agg #[.bool nb, .slice A' n' c']] w (PostC w (ival na l + ival nb m) (err (lng l || lng m || tooLong (ival na l + ival nb m)))) := by
  have hl1 := hs.len
  have hl2 := ht.len
  have HL := Lib.hid (W2_long (na := na) (nb := nb) hs ht (by omega) (by omega) hB hB')
  have HW := Lib.hid (W2_below w na nb A A' n c n' c')
  have HK := Lib.hid (fun C w2 (hb : Below C (W2 w na nb A A' n c n' c') w2) hC => W2_cells hb hC)
  have HS := Lib.hid (fun w1 (hb : Below w.heap.size w w1) => sum_any na nb (hs.below (C := w.heap.size) hb hB) (ht.below (C := w.heap.size) hb hB') (by omega) (by omega) (Nat.le_trans hB hb.size) (Nat.le_trans hB' hb.size))
  have HN := Lib.hid (show (digs W (ival na l + ival nb m).natAbs).length ≤ 67108864 from Nat.le_trans (digs_add_len (k := max n n') (ival_lt (neg := na) hs.dig (by omega)) (ival_lt (neg := nb) ht.dig (by omega))) (by omega))
  clear hs ht hn hn' hB hB' hl1 hl2
  generalize ival na l + ival nb m = Z at *
  cases hb : (lng l || lng m)
  all_goals
    rw [hb] at HL
    clear hb
    go_enter Try.func47, Try.ntmps47
    go_wp2_with fail
    refine HL.out.mono ?_
    rintro ex w3 ⟨rfl, hb3⟩
    obtain ⟨⟨q0, q1⟩, ⟨q2, q3⟩, r0, r1, r2, r3⟩ := HK.out _ _ hb3 (by simp)
    have HB3 := Lib.hid (HW.out.trans (hb3.mono (B' := w.heap.size) (by simp; omega)))
    have hz3 := hb3.size
    simp at hz3
    clear hb3
    go_wp2_with fail
  · refine (HS.out _ HB3.out).mono ?_
    rintro ex w4 ⟨v, rfl, ⟨A2, c2, rfl, ho2⟩, hb4⟩
    have HO := Lib.hid ho2
    have HB4 := Lib.hid hb4
    have hz4 := hb4.size
    clear ho2 hb4
    go_wp2_with fail
    refine (kept_res HO.out HN.out).mono ?_
    rintro ex w5 ⟨rfl, hb5⟩
    have HB45 := Lib.hid (HB4.out.trans (hb5.mono hz4))
    have HB35 := Lib.hid (HB3.out.trans (HB45.out.mono (B' := w.heap.size) (by omega)))
    have HO5 := Lib.hid (HO.out.below (C := w4.heap.size) hb5 (Nat.le_refl _))
    have r0 := (HB45.out.cell (p := ⟨w.heap.size + 1 + 1, 0, none⟩) (by simp; omega)).trans r0
    have r1 := (HB45.out.cell (p := ⟨w.heap.size + 1 + 1, 1, none⟩) (by simp; omega)).trans r1
    have r2 := (HB45.out.frozen (p := ⟨w.heap.size + 1 + 1, 0, none⟩) (by simp; omega)).trans r2
    have r3 := (HB45.out.frozen (p := ⟨w.heap.size + 1 + 1, 1, none⟩) (by simp; omega)).trans r3
    clear hb5
    cases hT : tooLong Z
    · simp only [Bool.false_eq_true, ↓reduceIte, err]
      go_wp2
      have hr := ResI.stored (w := w) (g := w.heap.size + 1 + 1) (u := .bool (decide (Z < 0))) (u' := .slice A2 (digs W Z.natAbs).length c2) ⟨A2, c2, rfl, HO5.out⟩ HB35.out (by omega) (by omega)
      exact bodyPost_ret (v := .tuple #[.agg #[.bool (decide (Z < 0)), .slice A2 (digs W Z.natAbs).length c2], .int .i64 0]) (by simp [results, Try.results47, go_sem, r0, r1]) rfl
        (PostC.ok (by simp [err, hT]) hr.1 hr.2)
    · simp only [↓reduceIte, err]
      go_wp2
      exact bodyPost_ret (v := .tuple #[zeroV, .int .i64 10]) (by simp [results, Try.results47, go_sem, r0, r1]) rfl
        (PostC.bad (by simp [err, hT]) (by decide) ((HB35.out.setCell (by simp; omega) _).setCell (by simp; omega) _))
  · exact bodyPost_ret (v := .tuple #[zeroV, .int .i64 10]) (by simp [results, Try.results47, go_sem, r0, r1]) rfl
      (PostC.bad (by simp [err]) (by decide) ((HB3.out.setCell (by simp; omega) _).setCell (by simp; omega) _))
end Go.Proofs.Ytggdmhkdmkldoaa
