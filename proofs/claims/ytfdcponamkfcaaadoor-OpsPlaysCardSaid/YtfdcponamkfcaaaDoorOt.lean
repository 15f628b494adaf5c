import Derived.Test.YtfdcponamkfcaaaDoorOr
import Derived.Laws.StructEq
namespace Go.Proofs.YtfdcponamkfcaaaDoor
open Go.RowKit Ho Go.Maps Hb
set_option linter.unusedVariables false
set_option linter.unusedSimpArgs false

theorem cls_le (k : Int) : cls k ≤ 3 := by
  unfold cls
  split
  · omega
  · split
    · omega
    · split <;> omega
/-- Add of anything -/
theorem Add_any {w : World} {g b1 b2 b3 N : Nat} {L : List OpV} (h : TabAt w g b1 b2 b3 N L) {p k : Int} {s : ByteArray} (hs : s.size ≤ maxLen) (hN : N < maxLen) :
    Calls Tryd.prog 17 #[.pointer (some ⟨g, 0, none⟩), .int .i64 p, .int .i64 k, .string s] w (AddPost w g b1 b2 b3 N L (Ho.add L p k s.data.toList) (code L p k s.data.toList)) := by
  have bad : ∀ co : Int, co ≠ 0 → code L p k s.data.toList = co → Calls Tryd.prog 17 #[.pointer (some ⟨g, 0, none⟩), .int .i64 p, .int .i64 k, .string s] w (AddPost w g b1 b2 b3 N L L co) → Calls Tryd.prog 17 #[.pointer (some ⟨g, 0, none⟩), .int .i64 p, .int .i64 k, .string s] w (AddPost w g b1 b2 b3 N L (Ho.add L p k s.data.toList) (code L p k s.data.toList)) := by
    intro co h0 he hc
    rw [Ho.add, he, if_neg h0]
    exact hc
  by_cases hp1 : p < 0
  · exact bad 40 (by decide) (by rw [code, if_pos (.inl hp1)]) (Add_lo h hs hN hp1)
  by_cases hp2 : 1200 < p
  · exact bad 40 (by decide) (by rw [code, if_pos (.inr hp2)]) (Add_hi h hs hN hp2)
  have hpp : ¬ (p < 0 ∨ 1200 < p) := by omega
  have hp : 0 ≤ p ∧ p ≤ 1200 := by omega
  by_cases hk : cls k = 0
  · exact bad 41 (by decide) (by rw [code, if_neg hpp, if_pos hk]) (Add_kind h hs hN hp hk)
  obtain ⟨c, hc⟩ : ∃ c, cls k = c + 1 := ⟨cls k - 1, by omega⟩
  have hc3 : c < 3 := by have := cls_le k; omega
  by_cases h1 : s.data.toList = [44]
  · exact bad 42 (by decide) (by rw [code, if_neg hpp, if_neg hk, if_pos h1]) (Add_comma h hs hN hc3 hc hp h1)
  by_cases h3 : s.data.toList = [91, 93]
  · exact bad 43 (by decide) (by rw [code, if_neg hpp, if_neg hk, if_neg h1, if_pos (.inl h3)]) (Add_list h hs hN hc3 hc hp h1 (by rw [h3]; decide) h3)
  by_cases h4 : s.data.toList = [123, 125]
  · exact bad 43 (by decide) (by rw [code, if_neg hpp, if_neg hk, if_neg h1, if_pos (.inr h4)]) (Add_curl h hs hN hc3 hc hp h1 (by rw [h4]; decide) h3 h4)
  have h34 : ¬ (s.data.toList = [91, 93] ∨ s.data.toList = [123, 125]) := by rintro (e | e); exact h3 e; exact h4 e
  by_cases h2 : s.data.toList = [124] ∧ ¬ (c = 1 ∧ (p = 0 ∨ 1000 < p))
  · have h2' : s.data.toList = [124] ∧ ¬ (cls k = 2 ∧ (p = 0 ∨ 1000 < p)) := ⟨h2.1, fun e => h2.2 ⟨by omega, e.2⟩⟩
    exact bad 43 (by decide) (by rw [code, if_neg hpp, if_neg hk, if_neg h1, if_neg h34, if_pos h2']) (Add_bar h hs hN hc3 hc hp h1 h2.1 h2.2)
  have h2' : ¬ (s.data.toList = [124] ∧ ¬ (cls k = 2 ∧ (p = 0 ∨ 1000 < p))) := fun e => h2 ⟨e.1, fun e2 => e.2 ⟨by omega, e2.2⟩⟩
  by_cases hp0 : p = 0
  · have e : code L p k s.data.toList = 0 := by rw [code, if_neg hpp, if_neg hk, if_neg h1, if_neg h34, if_neg h2', if_neg (by omega)]
    rw [Ho.add, e, if_pos rfl, after, if_neg (by omega)]
    by_cases h5 : s.data.toList = [124]
    · exact Add_delbar h hs hN hc3 hc rfl hp0 h1 h5 (Classical.byContradiction fun e => h2 ⟨h5, e⟩)
    · exact Add_del h hs hN hc3 hc rfl hp0 h1 h5 h3 h4
  have hq : 0 < p ∧ p ≤ 1200 := by omega
  obtain ⟨fi, hfi⟩ : ∃ b, (Ho.find L 2 s.data.toList).isSome = b := ⟨_, rfl⟩
  obtain ⟨fo, hfo⟩ : ∃ b, (Ho.find L 3 s.data.toList).isSome = b := ⟨_, rfl⟩
  by_cases hx : (c = 1 ∧ fo = true) ∨ (c = 2 ∧ fi = true)
  · have hx' : 0 < p ∧ ((cls k = 2 ∧ (Ho.find L 3 s.data.toList).isSome = true) ∨ (cls k = 3 ∧ (Ho.find L 2 s.data.toList).isSome = true)) := by
      rw [hfi, hfo]
      refine ⟨hq.1, ?_⟩
      rcases hx with e | e
      · exact .inl ⟨by omega, e.2⟩
      · exact .inr ⟨by omega, e.2⟩
    refine bad 43 (by decide) (by rw [code, if_neg hpp, if_neg hk, if_neg h1, if_neg h34, if_neg h2', if_pos hx']) ?_
    by_cases h5 : s.data.toList = [124]
    · exact Add_clashbar h hs hN hc3 hc rfl hq h1 h5 (Classical.byContradiction fun e => h2 ⟨h5, e⟩) hfi hfo hx
    · exact Add_clash h hs hN hc3 hc rfl hq h1 h5 h3 h4 hfi hfo hx
  · have hx' : ¬ (0 < p ∧ ((cls k = 2 ∧ (Ho.find L 3 s.data.toList).isSome = true) ∨ (cls k = 3 ∧ (Ho.find L 2 s.data.toList).isSome = true))) := by
      rw [hfi, hfo]
      rintro ⟨_, e | e⟩
      · exact hx (.inl ⟨by omega, e.2⟩)
      · exact hx (.inr ⟨by omega, e.2⟩)
    have e : code L p k s.data.toList = 0 := by rw [code, if_neg hpp, if_neg hk, if_neg h1, if_neg h34, if_neg h2', if_neg hx']
    rw [Ho.add, e, if_pos rfl, after, if_pos hq.1]
    by_cases h5 : s.data.toList = [124]
    · exact Add_putbar h hs hN hc3 hc rfl hq h1 h5 (Classical.byContradiction fun e => h2 ⟨h5, e⟩) hfi hfo hx
    · exact Add_put h hs hN hc3 hc rfl hq h1 h5 h3 h4 hfi hfo hx
/-! ### awake -/
def L0 : List OpV := putAll (rowsO 14)
theorem find_is : Ho.find L0 2 [105, 115] = some ⟨[105, 115], 3, 700⟩ := by decide +kernel
theorem code_is : code L0 700 6 [105, 115] = 43 := by decide +kernel
theorem code_is2 : code L0 700 2 [105, 115] = 0 := by decide +kernel
theorem rows_len : (rowsO 14).length ≤ 100 := by decide +kernel
theorem find_is2 : Ho.find (Ho.add L0 700 2 [105, 115]) 1 [105, 115] = some ⟨[105, 115], 2, 700⟩ := by
  rw [Ho.add, code_is2, if_pos rfl, after, if_pos (by decide)]
  exact find_put_same L0 ⟨[105, 115], 2, 700⟩
theorem AddPost.cells {w w' : World} {g b1 b2 b3 N : Nat} {L L' : List OpV} {co : Int} {e : Ending} (h : AddPost w g b1 b2 b3 N L L' co e w') (ht : TabAt w g b1 b2 b3 N L) {p : Nat} {xs : Array Value} {t : TypeId} {k : Nat × Nat} (hp : w.heap[p]? = some (.cells xs t k)) : w'.heap[p]? = some (.cells xs t k) := by
  obtain ⟨_, _, b, hb, hg⟩ := h
  have hne := ht.ne hp
  refine (hg.block p (Array.getElem?_eq_some_iff.1 hp).1 (fun e => ?_)).trans hp
  injection e with e
  rcases hb with rfl | rfl | rfl
  · exact hne.1 e.symm
  · exact hne.2.1 e.symm
  · exact hne.2.2 e.symm
theorem AddPost.below {w0 w w' : World} {g b1 b2 b3 N : Nat} {L L' : List OpV} {co : Int} {e : Ending} (h : AddPost w g b1 b2 b3 N L L' co e w') (hb : Below w0.heap.size w0 w) (h1 : w0.heap.size ≤ b1 ∧ w0.heap.size ≤ b2 ∧ w0.heap.size ≤ b3) : Below w0.heap.size w0 w' := by
  obtain ⟨_, _, b, hbb, hg⟩ := h
  refine hb.grown hg hb.size (fun j hj => ?_)
  cases hj
  rcases hbb with rfl | rfl | rfl
  · exact h1.1
  · exact h1.2.1
  · exact h1.2.2
end Go.Proofs.YtfdcponamkfcaaaDoor
