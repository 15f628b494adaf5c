import Derived.Test.YtggdmhkdmkldoaaBj
namespace Go.Proofs.Ytggdmhkdmkldoaa
open Go.RowKit Hb

theorem lng_digs (k : Nat) : lng (digs W k) = decide (4096 < blen k) := by rw [lng, nv_digs (by decide)]
def KeptPost (v : Value) (code : Int) (w : World) (e : Ending) (w' : World) : Prop := e = .returned (.tuple #[v, .int .i64 code]) ∧ Below w.heap.size w w'

set_option maxHeartbeats 1000000 in
theorem kept_any {neg : Bool} {B : Nat} {A : Option Addr} {l : List Nat} {n c : Nat} {w : World} (hs : SlU w B A n c l) (hn : n ≤ 67108864) (hB : B ≤ w.heap.size) :
    Calls Try.prog 83 #[.agg #[.bool neg, .slice A n c]] w
      (KeptPost (if lng l then .agg #[.bool false, .slice none 0 0] else .agg #[.bool neg, .slice A n c]) (if lng l then 10 else 0) w) := by
  have HW := Lib.hid ((((Below.refl w.heap.size w).alloc (Nat.le_refl _) (.cells #[.bool neg, .slice A n c] 24)).alloc (by simp) (.cells #[.bool false, .slice none 0 0] 24)).alloc (by simp; omega) (.cells #[.bool neg, .slice A n c] 24))
  have HL := Lib.hid (long1_any (neg := neg) (g := w.heap.size + 1 + 1) (hs.below (C := w.heap.size) HW.out hB) hn (Nat.le_trans hB HW.out.size) (by simp [go_sem]) (by simp [go_sem]))
  have HK := Lib.hid (fun C w2 (hb : Below C (((w.alloc (.cells #[.bool neg, .slice A n c] 24)).alloc (.cells #[.bool false, .slice none 0 0] 24)).alloc (.cells #[.bool neg, .slice A n c] 24)) w2) hC => three_boxes (Dr.refl _) hb hC)
  clear hs hn hB
  cases hb : lng l
  all_goals
    rw [hb] at HL
    clear hb
    go_enter Try.func83, Try.ntmps83
    go_wp2_with fail
    refine HL.out.mono ?_
    rintro ex w3 ⟨rfl, hb3⟩
    obtain ⟨⟨q0, q1⟩, ⟨r0, r1⟩, _⟩ := HK.out _ _ hb3 (by simp)
    have h1 := (hb3.frozen (p := ⟨w.heap.size + 1, 0, none⟩) (by simp)).trans (by simp [go_sem] : _ = false)
    have h2 := (hb3.frozen (p := ⟨w.heap.size + 1, 1, none⟩) (by simp)).trans (by simp [go_sem] : _ = false)
    have HB3 := Lib.hid hb3
    clear hb3
    go_wp2
  · exact bodyPost_ret (v := .tuple #[.agg #[.bool neg, .slice A n c], .int .i64 0]) (by simp [results, Try.results83, go_sem, r0, r1]) rfl
      ⟨by simp, ((HW.out.trans (HB3.out.mono (by simp; omega))).setCell (by simp) _).setCell (by simp) _⟩
  · exact bodyPost_ret (v := .tuple #[.agg #[.bool false, .slice none 0 0], .int .i64 10]) (by simp [results, Try.results83, go_sem, r0, r1]) rfl
      ⟨by simp, ((HW.out.trans (HB3.out.mono (by simp; omega))).setCell (by simp) _).setCell (by simp) _⟩
end Go.Proofs.Ytggdmhkdmkldoaa
