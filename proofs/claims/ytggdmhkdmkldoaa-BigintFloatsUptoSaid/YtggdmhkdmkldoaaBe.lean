import Derived.Test.YtggdmhkdmkldoaaBd
namespace Go.Proofs.Ytggdmhkdmkldoaa
open Go.RowKit Hb

/-- a call that hands back an integer, stored into the variable g of the call's own -/
theorem fin {w w1 w2 : World} {base g t : Nat} {x y v : Value} {z : Int} (hb : Below w.heap.size w w1) (hg : w1.heap[g]? = some (.cells #[x, y] t (0, 0))) (hwg : w.heap.size ≤ g)
    (hb2 : Below w1.heap.size w1 w2) (hr : ResI w2 base v z) (hgb : g < base) :
    w2.cell? ⟨g, 0, none⟩ = some x ∧ w2.cell? ⟨g, 1, none⟩ = some y ∧ w2.frozen? ⟨g, 0, none⟩ = false ∧ w2.frozen? ⟨g, 1, none⟩ = false ∧
      Hid (∀ u u', ResI ((w2.setCell ⟨g, 0, none⟩ u).setCell ⟨g, 1, none⟩ u') w.heap.size v z ∧ Below w.heap.size w ((w2.setCell ⟨g, 0, none⟩ u).setCell ⟨g, 1, none⟩ u')) := by
  have hlt : g < w1.heap.size := (Array.getElem?_eq_some_iff.1 hg).1
  obtain ⟨r0, r1, r2, r3⟩ := two_cells hb2 hg hlt
  exact ⟨r0, r1, r2, r3, fun u u' => ResI.stored hr (hb.trans (hb2.mono hb.size)) hgb hwg⟩
theorem own_two (w : World) {B g : Nat} (a b : Nat) (hg : w.heap.size = g) (hB : B ≤ g) : OwnU (w.alloc (.cells #[.int .u32 (a : Int), .int .u32 (b : Int)] 48)) B (some ⟨g, 0, none⟩) 2 2 (u32s [a, b]) := by
  subst hg
  exact Own.of_block (xs := u32s [a, b]) (heap_alloc_new w _) hB (by simp [u32s_length, maxLen])
theorem dig_two {a b : Nat} (ha : a < 4294967296) (hb : b < 4294967296) : Dig W [a, b] := Dig.cons ha (Dig.cons hb (Dig.nil _))
theorem ival_two (neg : Bool) {m : Nat} : ival neg [m % W, m / W] = if neg then -(m : Int) else m := by
  have : nv W [m % W, m / W] = m := by simp only [nv]; have := Nat.mod_add_div m W; omega
  simp [ival, this]

set_option maxHeartbeats 1000000 in
theorem from_any (n : Int) (w : World) (h1 : -9223372036854775808 ≤ n) (h2 : n ≤ 9223372036854775807) :
    Calls Try.prog 38 #[.int .i64 n] w (PostI w n) := by
  have HB := Lib.hid (Below.refl w.heap.size w)
  obtain ⟨m, hm⟩ : ∃ m : Nat, m = n.natAbs := ⟨_, rfl⟩
  have hz := ival_two (decide (n < 0)) (m := m)
  have hlt : m / 4294967296 < 4294967296 := by omega
  have hlt0 : m % 4294967296 < 4294967296 := by omega
  obtain ⟨a, ha⟩ : ∃ a : Nat, a = m % 4294967296 := ⟨_, rfl⟩
  obtain ⟨b, hb⟩ : ∃ b : Nat, b = m / 4294967296 := ⟨_, rfl⟩
  have hz2 : ival (decide (n < 0)) [a, b] = n := by
    rw [ha, hb]; refine hz.trans ?_
    by_cases h : n < 0
    · rw [if_pos (by simpa using h)]; omega
    · rw [if_neg (by simpa using h)]; omega
  have HM := Lib.hid (laid_own (decide (n < 0)) (own_two (w.alloc (.cells #[.bool false, .slice none 0 0] 24)) (B := w.heap.size + 1) a b (by simp) (Nat.le_refl _)) rfl (dig_two (by omega) (by omega)) hz2)
  by_cases h0 : n < 0
  · have hd : decide (n < 0) = true := decide_eq_true h0
    have e : IntKind.u64.wrap (-IntKind.u64.wrap n) = (m : Int) := by simp only [IntKind.wrap_u64]; omega
    have e2 : (m : Int) / 4294967296 % 4294967296 = (b : Int) := by omega
    have e3 : (m : Int) % 4294967296 = (a : Int) := by omega
    clear h0 h1 h2 hm hz hz2 hlt hlt0 ha hb
    go_enter Try.func38, Try.ntmps38
    go_wp2_with fail
    rw [hd] at HM
    refine HM.out.mono ?_
    rintro ex w2 ⟨v, rfl, ⟨A2, c2, rfl, ho2⟩, hb2⟩
    obtain ⟨r0, r1, r2, r3, hF⟩ := fin (g := w.heap.size) ((HB.out.alloc (Nat.le_refl _) _).alloc (by simp) _) (heap_first2 w _ _) (Nat.le_refl _) hb2 ⟨A2, c2, rfl, ho2⟩ (by omega)
    have HO := Lib.hid ho2
    have H2 := Lib.hid hb2
    clear ho2 hb2 e e2 e3 hd
    go_wp2
    exact bodyPost_ret (v := .agg #[.bool (decide (n < 0)), .slice A2 (digs W n.natAbs).length c2]) (by simp [results, Try.results38, go_sem, r0, r1]) rfl ⟨_, rfl, (hF.out _ _).1, (hF.out _ _).2⟩
  · have hd : decide (n < 0) = false := decide_eq_false h0
    have h3 : 0 ≤ n := by omega
    have e2 : n / 4294967296 = (b : Int) := by omega
    have e3 : n % 4294967296 = (a : Int) := by omega
    clear h0 h1 hm hz hz2 hlt hlt0 ha hb
    go_enter Try.func38, Try.ntmps38
    go_wp2_with fail
    rw [hd] at HM
    refine HM.out.mono ?_
    rintro ex w2 ⟨v, rfl, ⟨A2, c2, rfl, ho2⟩, hb2⟩
    obtain ⟨r0, r1, r2, r3, hF⟩ := fin (g := w.heap.size) ((HB.out.alloc (Nat.le_refl _) _).alloc (by simp) _) (heap_first2 w _ _) (Nat.le_refl _) hb2 ⟨A2, c2, rfl, ho2⟩ (by omega)
    have HO := Lib.hid ho2
    have H2 := Lib.hid hb2
    clear ho2 hb2 e2 e3 hd
    go_wp2
    exact bodyPost_ret (v := .agg #[.bool (decide (n < 0)), .slice A2 (digs W n.natAbs).length c2]) (by simp [results, Try.results38, go_sem, r0, r1]) rfl ⟨_, rfl, (hF.out _ _).1, (hF.out _ _).2⟩
end Go.Proofs.Ytggdmhkdmkldoaa
