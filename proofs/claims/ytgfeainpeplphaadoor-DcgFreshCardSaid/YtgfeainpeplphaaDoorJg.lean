import Derived.Test.YtgfeainpeplphaaDoorJf
import Derived.OneCell
import Derived.Laws.EntriesVeiled
namespace Go.Proofs.YtgfeainpeplphaaDoor
open Go.RowKit Hb Ht
set_option linter.unusedVariables false
set_option linter.unusedSimpArgs false
attribute [local go_sem] Oper.semAt_some
/-! ### new variables -/
/-- block Q holds where the next number stands, block N the number -/
structure NumAt (w : World) (Q N : Nat) (x : Int) : Prop where
  q : w.heap[Q]? = some (.cells #[.pointer (some ⟨N, 0, none⟩)] 72 (0, 0))
  n : w.heap[N]? = some (.cells #[.int .i64 x] 3 (0, 0))
  ne : Q ≠ N
theorem NumAt.below {w w' : World} {Q N : Nat} {x : Int} (h : NumAt w Q N x) (hb : Below w.heap.size w w') : NumAt w' Q N x :=
  ⟨(hb.block Q (Array.getElem?_eq_some_iff.1 h.q).1).trans h.q, (hb.block N (Array.getElem?_eq_some_iff.1 h.n).1).trans h.n, h.ne⟩
theorem NumAt.lt {w : World} {Q N : Nat} {x : Int} (h : NumAt w Q N x) : Q < w.heap.size ∧ N < w.heap.size := ⟨(Array.getElem?_eq_some_iff.1 h.q).1, (Array.getElem?_eq_some_iff.1 h.n).1⟩
def freshV (Q : Nat) : Value := .func (.func 60) #[] #[.pointer (some ⟨Q, 0, none⟩)]
set_option maxRecDepth 100000 in
set_option maxHeartbeats 4000000 in
theorem fresh_any {w : World} {Q N : Nat} {x : Int} (h : NumAt w Q N x) (hx : 0 ≤ x ∧ x ≤ 4611686018437387904) :
    Calls Tryd.prog 60 #[.pointer (some ⟨Q, 0, none⟩)] w fun e w' => e = .returned (.agg #[.int .i64 1, .string ⟨#[]⟩, .string ⟨#[]⟩, .int .u64 0, .int .i64 x, .slice none 0 0]) ∧ NumAt w' Q N (x + 1) ∧ w.grownBy w' (some N) := by
  obtain ⟨W1, hW1⟩ : ∃ W1, w.alloc (.cells #[.int .i64 0, .string ⟨#[]⟩, .string ⟨#[]⟩, .int .u64 0, .int .i64 0, .slice none 0 0] 25) = W1 := ⟨_, rfl⟩
  have hb1 : Below w.heap.size w W1 := by rw [← hW1]; exact (Below.refl _ _).alloc (Nat.le_refl _) _
  have hX : TBox W1 w.heap.size zeroT (.slice none 0 0) := by rw [← hW1]; exact heap_alloc_new w _
  have hn1 := h.below hb1
  have c1 := cell_of_one hn1.q
  have c2 := cell_of_one hn1.n
  have f2 := free_of_one hn1.n
  have hQ := Lib.hid (And.intro h.lt h.ne)
  have hNN : N ≠ w.heap.size := by have := h.lt; omega
  have c3 : (W1.setCell ⟨N, 0, none⟩ (.int .i64 (x + 1))).cell? ⟨Q, 0, none⟩ = some (.pointer (some ⟨N, 0, none⟩)) := cell_of_one (((Below.heap_setCell W1 ⟨N, 0, none⟩ (.int .i64 (x + 1)) Q h.ne)).trans hn1.q)
  have hn2 : (W1.setCell ⟨N, 0, none⟩ (.int .i64 (x + 1))).heap[N]? = some (.cells #[.int .i64 (x + 1)] 3 (0, 0)) := one_setCell hn1.n
  have c4 := cell_of_one hn2
  have hX2 : TBox (W1.setCell ⟨N, 0, none⟩ (.int .i64 (x + 1))) w.heap.size zeroT (.slice none 0 0) := hX.far (by show w.heap.size ≠ N; omega) _
  obtain ⟨z0, z1, z2, z3, z4, z5⟩ := hX2.frozens
  obtain ⟨u0, u1, u2, u3, u4, u5⟩ := hX2.cells rfl rfl
  have HE := Lib.hid (show NumAt (W1.setCell ⟨N, 0, none⟩ (.int .i64 (x + 1))) Q N (x + 1) ∧ w.grownBy (W1.setCell ⟨N, 0, none⟩ (.int .i64 (x + 1))) (some N) ∧ TBox (W1.setCell ⟨N, 0, none⟩ (.int .i64 (x + 1))) w.heap.size zeroT (.slice none 0 0) from
    ⟨⟨((Below.heap_setCell W1 ⟨N, 0, none⟩ (.int .i64 (x + 1)) Q h.ne)).trans hn1.q, hn2, h.ne⟩, gb_setCell (grown_below hb1) 0 _, hX2⟩)
  subst hW1
  clear h hb1 hX hn1 hn2 hX2 hNN
  go_enter Tryd.func60, Tryd.ntmps60
  go_wp2
  obtain ⟨hbx, hgr⟩ := HE.out.2.2.set6 (k := 1) (b := 0) (v := x) (n := []) (m := []) [] (.slice none 0 0) rfl rfl
  generalize hw2 : (w.alloc (.cells #[.int .i64 0, .string ⟨#[]⟩, .string ⟨#[]⟩, .int .u64 0, .int .i64 0, .slice none 0 0] 25)).setCell ⟨N, 0, none⟩ (.int .i64 (x + 1)) = w2 at *
  generalize (((((w2.setCell ⟨w.heap.size, 0, none⟩ (.int .i64 1)).setCell ⟨w.heap.size, 1, none⟩ (.string ⟨#[]⟩)).setCell ⟨w.heap.size, 2, none⟩ (.string ⟨#[]⟩)).setCell ⟨w.heap.size, 3, none⟩ (.int .u64 0)).setCell ⟨w.heap.size, 4, none⟩ (.int .i64 x)).setCell ⟨w.heap.size, 5, none⟩ (.slice none 0 0) = w6 at *
  obtain ⟨r0, r1, r2, r3, r4, r5⟩ := hbx.cells (nb := ⟨#[]⟩) (mb := ⟨#[]⟩) rfl rfl
  obtain ⟨hn, hg, hX⟩ := HE.out
  have hq := hQ.out
  refine bodyPost_ret (v := .agg #[.int .i64 1, .string ⟨#[]⟩, .string ⟨#[]⟩, .int .u64 0, .int .i64 x, .slice none 0 0]) (by simp [results, Tryd.results60, go_sem, r0, r1, r2, r3, r4, r5]) rfl ⟨rfl, ?_, ?_⟩
  · exact ⟨(hgr.block Q (hn.lt.1) (fun e => by injection e with e; omega)).trans hn.q, (hgr.block N (hn.lt.2) (fun e => by injection e with e; omega)).trans hn.n, hn.ne⟩
  · exact ⟨hgr.os.trans hg.os, hgr.tape.trans hg.tape, hgr.output.trans hg.output, Nat.le_trans hg.size hgr.size, fun j hj hne => (hgr.block j (Nat.lt_of_lt_of_le hj hg.size) (fun e => by injection e with e; omega)).trans (hg.block j hj hne)⟩
set_option maxRecDepth 100000 in
set_option maxHeartbeats 1000000 in
theorem from_any {w : World} {N : Nat} {x : Int} (h : w.heap[N]? = some (.cells #[.int .i64 x] 3 (0, 0))) :
    Calls Tryd.prog 35 #[.pointer (some ⟨N, 0, none⟩)] w fun e w' => e = .returned (freshV w.heap.size) ∧ NumAt w' w.heap.size N x ∧ Below w.heap.size w w' := by
  have hlt := (Array.getElem?_eq_some_iff.1 h).1
  have hb : Below w.heap.size w (w.alloc (.cells #[.pointer (some ⟨N, 0, none⟩)] 72)) := (Below.refl _ _).alloc (Nat.le_refl _) _
  have HE := Lib.hid (show NumAt (w.alloc (.cells #[.pointer (some ⟨N, 0, none⟩)] 72)) w.heap.size N x ∧ Below w.heap.size w (w.alloc (.cells #[.pointer (some ⟨N, 0, none⟩)] 72)) from
    ⟨⟨heap_alloc_new w _, (hb.block N hlt).trans h, by omega⟩, hb⟩)
  have hmf : ∀ (fn : Fn) (first cap : Array Value) (w : World), (Instr.makeFunc fn first cap).run Tryd.prog w = .ok (.func fn first cap) w := fun _ _ _ _ => rfl
  clear h hlt hb
  go_enter Tryd.func35, Tryd.ntmps35
  go_wp2
  go_ret
  exact ⟨rfl, HE.out.1, HE.out.2⟩
end Go.Proofs.YtgfeainpeplphaaDoor
