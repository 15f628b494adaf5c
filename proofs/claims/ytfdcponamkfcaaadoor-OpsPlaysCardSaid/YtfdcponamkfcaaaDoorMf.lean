import Derived.Test.YtfdcponamkfcaaaDoorMe
import Derived.Test.YtfdcponamkfcaaaDoorNy
import Derived.Deep.AppendLies
import Derived.Deep.RegionHeld3
import Derived.Test.YtfdcponamkfcaaaDoorReg
namespace Go.Proofs.YtfdcponamkfcaaaDoor
open Go.RowKit Ho Go.Maps Go.Shelf Go.Sort Hb
set_option linter.unusedVariables false
set_option linter.unusedSimpArgs false
/-! ### the reference's New -/
theorem rP_cell : ∀ i, i < 15 → (#[.int .i64 1200, .int .i64 1200, .int .i64 1100, .int .i64 1050, .int .i64 1000, .int .i64 900, .int .i64 760, .int .i64 700, .int .i64 500, .int .i64 450, .int .i64 400, .int .i64 200, .int .i64 200, .int .i64 200, .int .i64 200] : Array Value)[i]? = some (.int .i64 (rPs.getD i 0 : Nat)) := by
  intro i hi
  have e : (#[.int .i64 1200, .int .i64 1200, .int .i64 1100, .int .i64 1050, .int .i64 1000, .int .i64 900, .int .i64 760, .int .i64 700, .int .i64 500, .int .i64 450, .int .i64 400, .int .i64 200, .int .i64 200, .int .i64 200, .int .i64 200] : Array Value) = (rPs.map fun n => Value.int .i64 (n : Nat)).toArray := rfl
  have h : i < rPs.length := hi
  rw [e, List.getElem?_toArray, List.getElem?_map, List.getElem?_eq_getElem h, List.getD_eq_getElem?_getD, List.getElem?_eq_getElem h]
  rfl
theorem rK_cell : ∀ i, i < 15 → (#[.int .i64 3, .int .i64 1, .int .i64 4, .int .i64 4, .int .i64 4, .int .i64 2, .int .i64 5, .int .i64 3, .int .i64 5, .int .i64 3, .int .i64 5, .int .i64 3, .int .i64 4, .int .i64 2, .int .i64 4] : Array Value)[i]? = some (.int .i64 (rKs.getD i 0 : Nat)) := by
  intro i hi
  have e : (#[.int .i64 3, .int .i64 1, .int .i64 4, .int .i64 4, .int .i64 4, .int .i64 2, .int .i64 5, .int .i64 3, .int .i64 5, .int .i64 3, .int .i64 5, .int .i64 3, .int .i64 4, .int .i64 2, .int .i64 4] : Array Value) = (rKs.map fun n => Value.int .i64 (n : Nat)).toArray := rfl
  have h : i < rKs.length := hi
  rw [e, List.getElem?_toArray, List.getElem?_map, List.getElem?_eq_getElem h, List.getD_eq_getElem?_getD, List.getElem?_eq_getElem h]
  rfl
theorem rN_cell : ∀ i, i < 15 → (#[.string ⟨#[58, 45, 32, 45, 45, 62]⟩, .string ⟨#[58, 45, 32, 63, 45]⟩, .string ⟨#[59, 32, 124]⟩, .string ⟨#[45, 62]⟩, .string ⟨#[44]⟩, .string ⟨#[92, 43]⟩, .string ⟨#[35, 60, 61, 61, 62]⟩, .string ⟨#[61, 32, 92, 61, 32, 61, 61, 32, 92, 61, 61, 32, 64, 60, 32, 64, 61, 60, 32, 64, 62, 32, 64, 62, 61, 32, 61, 46, 46, 32, 105, 115, 32, 61, 58, 61, 32, 61, 92, 61, 32, 60, 32, 61, 60, 32, 62, 32, 62, 61, 32, 105, 110, 32, 105, 110, 115, 32, 35, 61, 32, 35, 92, 61, 32, 35, 60, 32, 35, 61, 60, 32, 35, 62, 32, 35, 62, 61]⟩, .string ⟨#[43, 32, 45, 32, 47, 92, 32, 92, 47]⟩, .string ⟨#[46, 46]⟩, .string ⟨#[42, 32, 47, 32, 47, 47, 32, 114, 101, 109, 32, 109, 111, 100, 32, 100, 105, 118, 32, 60, 60, 32, 62, 62, 32, 120, 111, 114]⟩, .string ⟨#[42, 42]⟩, .string ⟨#[94]⟩, .string ⟨#[45, 32, 43, 32, 92]⟩, .string ⟨#[58]⟩] : Array Value)[i]? = some (.string ⟨(rNs.getD i []).toArray⟩) := by
  intro i hi
  have e : (#[.string ⟨#[58, 45, 32, 45, 45, 62]⟩, .string ⟨#[58, 45, 32, 63, 45]⟩, .string ⟨#[59, 32, 124]⟩, .string ⟨#[45, 62]⟩, .string ⟨#[44]⟩, .string ⟨#[92, 43]⟩, .string ⟨#[35, 60, 61, 61, 62]⟩, .string ⟨#[61, 32, 92, 61, 32, 61, 61, 32, 92, 61, 61, 32, 64, 60, 32, 64, 61, 60, 32, 64, 62, 32, 64, 62, 61, 32, 61, 46, 46, 32, 105, 115, 32, 61, 58, 61, 32, 61, 92, 61, 32, 60, 32, 61, 60, 32, 62, 32, 62, 61, 32, 105, 110, 32, 105, 110, 115, 32, 35, 61, 32, 35, 92, 61, 32, 35, 60, 32, 35, 61, 60, 32, 35, 62, 32, 35, 62, 61]⟩, .string ⟨#[43, 32, 45, 32, 47, 92, 32, 92, 47]⟩, .string ⟨#[46, 46]⟩, .string ⟨#[42, 32, 47, 32, 47, 47, 32, 114, 101, 109, 32, 109, 111, 100, 32, 100, 105, 118, 32, 60, 60, 32, 62, 62, 32, 120, 111, 114]⟩, .string ⟨#[42, 42]⟩, .string ⟨#[94]⟩, .string ⟨#[45, 32, 43, 32, 92]⟩, .string ⟨#[58]⟩] : Array Value) = (rNs.map fun n => Value.string ⟨n.toArray⟩).toArray := rfl
  have h : i < rNs.length := hi
  rw [e, List.getElem?_toArray, List.getElem?_map, List.getElem?_eq_getElem h, List.getD_eq_getElem?_getD, List.getElem?_eq_getElem h]
  rfl
theorem rN_small : ∀ i, i < 15 → (rNs.getD i []).length ≤ 1000 ∧ (rWs.getD i []).length ≤ 100 := by decide +kernel
theorem rRows_small : ∀ i, i ≤ 15 → (rRows i).length ≤ 1000 := by decide +kernel
structure NR (w : World) (S B : Nat) (cP cK cN : Array Value) (l : List OpV) (wr : World) : Prop where
  p : wr.heap[S]? = some (.cells cP 3 (0, 0))
  k : wr.heap[S + 1]? = some (.cells cK 3 (0, 0))
  n : wr.heap[S + 1 + 1]? = some (.cells cN 9 (0, 0))
  row : ∃ A c, Boxed wr (S + 1 + 1 + 1) 77 (.slice A l.length c) ∧ wr.ownsRow B 23 3 (.slice A l.length c) l.length (flO l)
  bel : Below w.heap.size w wr
  le : B ≤ wr.heap.size
theorem step_append_ops {ops : Array Oper} {o : Oper} {a : Act} {w : World} {K : Act → World → Prop} {Q : Exit → Act → World → Prop} {E : Prop} (hgd : o.guard = none) (s x : Operand)
    (ho : o.op = .call { callee := .builtin .append, args := #[s, x], argTypes := #[30, 30] })
    (base : Nat) (A : Option Addr) (n c : Nat) (xs : List OpV) (hs : a.eval s = .slice A n c) (hown : w.ownsRow base 23 3 (.slice A n c) n (flO xs))
    (ad : Addr) (m c2 : Nat) (ys : List OpV) (hx : a.eval x = .slice (some ad) m c2) (hl : ys.length = m) (hm : 0 < m) (hnews : ∀ j u, (flO ys)[j]? = some u → w.cell? (ad.add j) = some u)
    (b2 : (n + m) * 32 ≤ 140737488355328) (hb : base ≤ w.heap.size)
    (h : ∀ g c' w', w'.ownsRow base 23 3 (.slice (some ⟨g, 0, none⟩) (n + m) c') (n + m) (flO (xs ++ ys)) → Below base w w' → w.grownBy w' (Value.slice A n c).ownBlock → K (a.put o.dst (.slice (some ⟨g, 0, none⟩) (n + m) c')) w') :
    if Region.wanted o (yielded ops a.tmps) = true then Oper.wp Tryd.prog o a w K Q else E := by
  obtain ⟨i0, hi, hz0, hz1, hz2⟩ := info_parts infoO
  refine step_append_lies w hgd s x 30 ho base 23 i0 (.agg #[.string ⟨#[]⟩, .int .i64 0, .int .i64 0]) 3 32 Tryd.underlying30 hi hz0 hz1 hz2 rfl (by decide) _ n (flO xs) hs hown ad m c2 (flO ys) hx (by rw [flO_length, hl]) hnews ?_ hm (by unfold maxLen; omega) b2 hb _ rfl ?_
  · intro u hu
    obtain ⟨y, _, hy⟩ := List.mem_flatMap.1 hu
    unfold encO at hy
    simp at hy
    rcases hy with rfl | rfl | rfl <;> rfl
  · intro g c' w' ho' hg _ _
    have e : flO xs ++ flO ys = flO (xs ++ ys) := by simp [flO]
    rw [e] at ho'
    refine h g c' w' ho' ⟨hg.os, hg.tape, hg.output, hg.size, fun j hj => hg.block j (Nat.lt_of_lt_of_le hj hb) (fun e2 => ?_)⟩ hg
    have := (hown.lt j e2.symm).1
    omega
theorem owns_keep {w w' : World} {B n c : Nat} {A : Option Addr} {xs : List Value} (h : w.ownsRow B 23 3 (.slice A n c) n xs) (hb : ∀ j, j < w.heap.size → w'.heap[j]? = w.heap[j]?) : w'.ownsRow B 23 3 (.slice A n c) n xs := by
  refine ⟨h.1, ?_⟩
  rcases h.2 with h2 | ⟨g, cap, cur, h2, h3, h4, h5⟩
  · exact .inl h2
  · exact .inr ⟨g, cap, cur, h2, h3, (hb g (Array.getElem?_eq_some_iff.1 h4).1).trans h4, h5⟩
theorem NR.below {w wr w' : World} {S B : Nat} {cP cK cN : Array Value} {l : List OpV} (h : NR w S B cP cK cN l wr) (hb : Below wr.heap.size wr w') : NR w S B cP cK cN l w' := by
  obtain ⟨A, c, h1, h2⟩ := h.row
  have hk : ∀ j, j < wr.heap.size → w'.heap[j]? = wr.heap[j]? := fun j hj => hb.block j hj
  exact ⟨(hk _ (Array.getElem?_eq_some_iff.1 h.p).1).trans h.p, (hk _ (Array.getElem?_eq_some_iff.1 h.k).1).trans h.k, (hk _ (Array.getElem?_eq_some_iff.1 h.n).1).trans h.n, ⟨A, c, (hk _ h1.lt).trans h1, owns_keep h2 hk⟩, h.bel.trans (hb.mono h.bel.size), Nat.le_trans h.le hb.size⟩
theorem words_block {w : World} {B n c : Nat} {A : Option Addr} {xs : List Value} (h : Hb.Own 9 w B A n c xs) (hn : 0 < n) : ∃ g cs, A = some ⟨g, 0, none⟩ ∧ w.heap[g]? = some (.cells cs 9 (0, 0)) := by
  rcases h.2 with ⟨_, h2⟩ | ⟨g, cap, cur, h1, _, h3, _⟩
  · omega
  · injection h1 with a _ _
    exact ⟨g, cur, a, h3⟩
theorem own_ty {w : World} {B n c : Nat} {A : Option Addr} {xs : List Value} (h : w.ownsRow B 23 3 (.slice A n c) n xs) {b : Nat} (hb : (Value.slice A n c).ownBlock = some b) : ∃ cs, w.heap[b]? = some (.cells cs 23 (0, 0)) := by
  rcases h.2 with ⟨h1, _⟩ | ⟨g, cap, cur, h1, _, h3, _⟩
  · rw [h1] at hb; cases hb
  · rw [h1] at hb
    cases hb
    exact ⟨cur, h3⟩
theorem NR.stored {w wr wn w3 : World} {S g m c : Nat} {cP cK cN : Array Value} {l l' : List OpV} {v : Value} (hS : w.heap.size = S) (h : NR w S (S + 1 + 1 + 1 + 1) cP cK cN l wr) (hbn : Below wr.heap.size wr wn)
    (hbx : Boxed wr (S + 1 + 1 + 1) 77 v) (ho : w3.ownsRow (S + 1 + 1 + 1 + 1) 23 3 (.slice (some ⟨g, 0, none⟩) m c) m (flO l')) (hl : l'.length = m) (hb3 : Below (S + 1 + 1 + 1 + 1) wn w3) :
    NR w S (S + 1 + 1 + 1 + 1) cP cK cN l' (w3.setCell ⟨S + 1 + 1 + 1, 0, none⟩ (.slice (some ⟨g, 0, none⟩) m c)) := by
  have kp : ∀ j, j < S + 1 + 1 + 1 + 1 → w3.heap[j]? = wr.heap[j]? := fun j hj => (hb3.block j hj).trans (hbn.block j (by have := h.le; omega))
  have ks : ∀ j, j < S + 1 + 1 + 1 → (w3.setCell ⟨S + 1 + 1 + 1, 0, none⟩ (.slice (some ⟨g, 0, none⟩) m c)).heap[j]? = wr.heap[j]? := fun j hj => (Below.heap_setCell _ _ _ j (by show j ≠ S + 1 + 1 + 1; omega)).trans (kp j (by omega))
  have hb4 : Below w.heap.size w w3 := (h.bel.trans (hbn.mono h.bel.size)).trans (hb3.mono (by omega))
  have hbx3 : Boxed w3 (S + 1 + 1 + 1) 77 v := (kp _ (by omega)).trans hbx
  have hsz : S + 1 + 1 + 1 + 1 ≤ w3.heap.size := by have := h.le; have := hbn.size; have := hb3.size; omega
  refine ⟨(ks _ (by omega)).trans h.p, (ks _ (by omega)).trans h.k, (ks _ (by omega)).trans h.n, ⟨some ⟨g, 0, none⟩, c, ?_, ?_⟩, hb4.setCell (p := ⟨S + 1 + 1 + 1, 0, none⟩) (by show w.heap.size ≤ S + 1 + 1 + 1; omega) _, ?_⟩
  · rw [hl]; exact hbx3.set _
  · rw [hl]
    refine ⟨ho.1, ?_⟩
    rcases ho.2 with h2 | ⟨g', cap, cur, h2, h3, h4, h5⟩
    · exact .inl h2
    · exact .inr ⟨g', cap, cur, h2, h3, (Below.heap_setCell _ _ _ g' (by show g' ≠ S + 1 + 1 + 1; omega)).trans h4, h5⟩
  · have := (grownBy_setCell' w3 (S + 1 + 1 + 1) (.slice (some ⟨g, 0, none⟩) m c)).size
    omega
theorem rRow_step {i k : Nat} {y : List UInt8} {kt pt : Nat} {ws : List (List UInt8)} {L : List OpV} (hws : rWs.getD i [] = ws) (hy : ws[k]? = some y) (hkt : rKs.getD i 0 = kt) (hpt : rPs.getD i 0 = pt) (hl : rRows i ++ (rRow i).take k = L) :
    rRows i ++ (rRow i).take (k + 1) = L ++ [⟨y, kt, pt⟩] := by
  obtain ⟨hi, e⟩ := List.getElem?_eq_some_iff.1 hy
  have hr : rRow i = ws.map fun n => ⟨n, (kt : Nat), (pt : Nat)⟩ := by unfold rRow; rw [hws, hkt, hpt]
  rw [← hl, hr, List.take_succ_eq_append_getElem (by rw [List.length_map]; exact hi), List.getElem_map, e, List.append_assoc]
set_option maxRecDepth 100000 in
set_option maxHeartbeats 8000000 in
theorem rNew_any (w : World) :
    Calls Tryd.prog 24 #[] w fun e w' => ∃ h, e = .returned (.pointer (some ⟨h, 0, none⟩)) ∧ RTab w' h R0 ∧ w.heap.size ≤ h ∧ Below w.heap.size w w' := by
  have HP := rP_cell
  have HK := rK_cell
  have HN := rN_cell
  go_enter Tryd.func24, Tryd.ntmps24
  go_upto_region 5 with fail
  generalize (#[.int .i64 1200, .int .i64 1200, .int .i64 1100, .int .i64 1050, .int .i64 1000, .int .i64 900, .int .i64 760, .int .i64 700, .int .i64 500, .int .i64 450, .int .i64 400, .int .i64 200, .int .i64 200, .int .i64 200, .int .i64 200] : Array Value) = cP at *
  generalize (#[.int .i64 3, .int .i64 1, .int .i64 4, .int .i64 4, .int .i64 4, .int .i64 2, .int .i64 5, .int .i64 3, .int .i64 5, .int .i64 3, .int .i64 5, .int .i64 3, .int .i64 4, .int .i64 2, .int .i64 4] : Array Value) = cK at *
  generalize (#[.string ⟨#[58, 45, 32, 45, 45, 62]⟩, .string ⟨#[58, 45, 32, 63, 45]⟩, .string ⟨#[59, 32, 124]⟩, .string ⟨#[45, 62]⟩, .string ⟨#[44]⟩, .string ⟨#[92, 43]⟩, .string ⟨#[35, 60, 61, 61, 62]⟩, .string ⟨#[61, 32, 92, 61, 32, 61, 61, 32, 92, 61, 61, 32, 64, 60, 32, 64, 61, 60, 32, 64, 62, 32, 64, 62, 61, 32, 61, 46, 46, 32, 105, 115, 32, 61, 58, 61, 32, 61, 92, 61, 32, 60, 32, 61, 60, 32, 62, 32, 62, 61, 32, 105, 110, 32, 105, 110, 115, 32, 35, 61, 32, 35, 92, 61, 32, 35, 60, 32, 35, 61, 60, 32, 35, 62, 32, 35, 62, 61]⟩, .string ⟨#[43, 32, 45, 32, 47, 92, 32, 92, 47]⟩, .string ⟨#[46, 46]⟩, .string ⟨#[42, 32, 47, 32, 47, 47, 32, 114, 101, 109, 32, 109, 111, 100, 32, 100, 105, 118, 32, 60, 60, 32, 62, 62, 32, 120, 111, 114]⟩, .string ⟨#[42, 42]⟩, .string ⟨#[94]⟩, .string ⟨#[45, 32, 43, 32, 92]⟩, .string ⟨#[58]⟩] : Array Value) = cN at *
  have HH := Lib.hid (And.intro HP (And.intro HK HN))
  clear HP HK HN
  obtain ⟨S, hS⟩ : ∃ S, w.heap.size = S := ⟨_, rfl⟩
  obtain ⟨W0, hW0⟩ : ∃ W0, ((((w.alloc (.cells cP 3)).alloc (.cells cK 3)).alloc (.cells cN 9)).alloc (.cells #[.slice none 0 0] 77)) = W0 := ⟨_, rfl⟩
  have hR0 : NR w S (S + 1 + 1 + 1 + 1) cP cK cN [] W0 := by
    rw [← hW0, ← hS]
    have n1 := World.alloc_heap_new w (.cells cP 3)
    have n2 := World.alloc_heap_new (w.alloc (.cells cP 3)) (.cells cK 3)
    have n3 := World.alloc_heap_new ((w.alloc (.cells cP 3)).alloc (.cells cK 3)) (.cells cN 9)
    have n4 := World.alloc_heap_new (((w.alloc (.cells cP 3)).alloc (.cells cK 3)).alloc (.cells cN 9)) (.cells #[.slice none 0 0] 77)
    simp only [World.size_alloc] at n2 n3 n4
    refine ⟨?_, ?_, ?_, ⟨none, 0, n4, rfl, .inl ⟨rfl, rfl⟩⟩, ?_, by simp⟩
    · exact (Below.heap_alloc _ _ _ (by simp <;> omega)).trans ((Below.heap_alloc _ _ _ (by simp <;> omega)).trans ((Below.heap_alloc _ _ _ (by simp <;> omega)).trans n1))
    · exact (Below.heap_alloc _ _ _ (by simp <;> omega)).trans ((Below.heap_alloc _ _ _ (by simp <;> omega)).trans n2)
    · exact (Below.heap_alloc _ _ _ (by simp <;> omega)).trans n3
    · exact ((((Below.refl _ w).alloc (Nat.le_refl _) _).alloc (by simp) _).alloc (by simp <;> omega) _).alloc (by simp <;> omega) _
  rw [hW0]
  have HR0 := Lib.hid hR0
  have HSS := Lib.hid hS
  clear hR0 hW0
  rw [hS]
  clear hS
  go_upto_region 6 with fail
  go_loopw [5] (fun v5 wr => ∃ i : Nat, v5 = .int .i64 (i : Int) ∧ i ≤ 15 ∧ Hid (NR w S (S + 1 + 1 + 1 + 1) cP cK cN (rRows i) wr)) (fun v5 _ => 15 - (intOf v5).toNat)
  case atStart => exact ⟨0, rfl, by omega, HR0⟩
  case round =>
    obtain ⟨i, rfl, hi, HR⟩ := hrel
    have hi0 : (0 : Int) ≤ (i : Int) := by omega
    by_cases hlt : i < 15
    · have hltI : (i : Int) < 15 := by omega
      obtain ⟨nm, hnm⟩ : ∃ l, rNs.getD i [] = l := ⟨_, rfl⟩
      obtain ⟨ws, hws⟩ : ∃ l, rWs.getD i [] = l := ⟨_, rfl⟩
      have q0 := cell_of_row wr (S + 1 + 1) i _ _ (0, 0) HR.out.n
      rw [HH.out.2.2 i hlt, hnm] at q0
      have hsm := rN_small i hlt
      rw [hnm, hws] at hsm
      have HWd := Lib.hid (show Calls Tryd.prog 33 #[.string ⟨nm.toArray⟩] wr fun e w' => ∃ A c, e = .returned (.slice A ws.length c) ∧ Hb.Own 9 w' wr.heap.size A ws.length c (strsL ws) ∧ Below wr.heap.size wr w' from by
        have h9 := rwords_any ⟨nm.toArray⟩ wr (by show nm.toArray.size ≤ 1000000; rw [List.size_toArray]; omega)
        have e : rwords (⟨nm.toArray⟩ : ByteArray).data.toList = ws := by rw [← hws, ← r_words i hlt, hnm]
        rw [e] at h9
        exact h9)
      have HSm := Lib.hid (And.intro hsm (And.intro hlt hws))
      have hi2 := hlt
      clear hsm hlt hws hnm
      go_wp2_with fail
      (with_reducible refine HWd.out.mono ?_)
      rintro ex w1 ⟨A, c, rfl, ho, hb⟩
      have HR1 := Lib.hid (HR.out.below hb)
      have HO1 := Lib.hid ho
      clear ho hb q0
      obtain ⟨m, hm⟩ : ∃ m, ws.length = m := ⟨_, rfl⟩
      have HM := Lib.hid hm
      have hmI : (m : Int) ≤ 100 := by have := HSm.out.1.2; omega
      rw [hm] at HO1 ⊢
      clear hm
      go_upto_region 10 with fail
      go_loopw [7] (fun v7 wz => ∃ k : Nat, v7 = .int .i64 (k : Int) ∧ k ≤ m ∧ Hid (NR w S (S + 1 + 1 + 1 + 1) cP cK cN (rRows i ++ (rRow i).take k) wz ∧ ∀ gw cs, A = some ⟨gw, 0, none⟩ → w1.heap[gw]? = some (.cells cs 9 (0, 0)) → wz.heap[gw]? = some (.cells cs 9 (0, 0)))) (fun v7 _ => m - (intOf v7).toNat)
      case atStart => exact ⟨0, rfl, Nat.zero_le _, Lib.hid ⟨by rw [List.take_zero, List.append_nil]; exact HR1.out, fun _ _ _ h => h⟩⟩
      case round =>
        obtain ⟨k, rfl, hk, HZ⟩ := hrel
        have hk0 : (0 : Int) ≤ (k : Int) := by omega
        by_cases hlt : k < m
        · have hltI2 : (k : Int) < (m : Int) := by omega
          obtain ⟨gw, cs, rfl, hgw⟩ := words_block HO1.out (by omega)
          have hgz := HZ.out.2 gw cs rfl hgw
          obtain ⟨y, hy⟩ : ∃ y, ws[k]? = some y := ⟨_, List.getElem?_eq_getElem (by rw [HM.out]; exact hlt)⟩
          have p0 : wr.cell? ⟨gw, k, none⟩ = some (.string ⟨y.toArray⟩) := by
            have h9 := Own.cell HO1.out hlt
            rw [World.cell?_of_block (a := ⟨gw, k, none⟩) (hgz.trans hgw.symm), h9]
            unfold strsL
            rw [List.getElem?_map, hy]
            rfl
          have p1 := cell_of_row wr (S + 1) i _ _ (0, 0) HZ.out.1.k
          have p2 := cell_of_row wr S i _ _ (0, 0) HZ.out.1.p
          rw [HH.out.2.1 i hi2] at p1
          rw [HH.out.1 i hi2] at p2
          obtain ⟨kt, hkt⟩ : ∃ l, rKs.getD i 0 = l := ⟨_, rfl⟩
          obtain ⟨pt, hpt⟩ : ∃ l, rPs.getD i 0 = l := ⟨_, rfl⟩
          rw [hkt] at p1
          rw [hpt] at p2
          obtain ⟨A2, c2, hbx, hown⟩ := HZ.out.1.row
          obtain ⟨l, hl⟩ : ∃ l, rRows i ++ (rRow i).take k = l := ⟨_, rfl⟩
          rw [hl] at hbx hown HZ
          obtain ⟨n2, hn2⟩ : ∃ l', l.length = l' := ⟨_, rfl⟩
          rw [hn2] at hbx hown
          have hn2b : n2 ≤ 2000 := by
            have h1 := rRows_small i (by omega)
            rw [← hn2, ← hl, List.length_append, List.length_take]
            have : (rRow i).length ≤ 100 := by unfold rRow; rw [List.length_map, HSm.out.2.2]; exact HSm.out.1.2
            omega
          have hbc := hbx.cell
          have hbf := hbx.frozen
          have hcap := owns_cap hown
          have HF := Lib.hid (And.intro hy (And.intro hkt (And.intro hpt (And.intro hl (And.intro hn2 hgw)))))
          have HOw := Lib.hid (fun (w2 : World) (hb : ∀ j, j < wr.heap.size → w2.heap[j]? = wr.heap[j]?) => owns_keep (w' := w2) hown hb)
          have HBx := Lib.hid hbx
          have HLt := Lib.hid hlt
          clear hy hkt hpt hl hn2 hgw hgz hown hbx hk hlt
          go_upto_region 12 with fail
          have HGw := Lib.hid (show gw < wr.heap.size ∧ gw ≠ S + 1 + 1 + 1 from ⟨(Array.getElem?_eq_some_iff.1 (HZ.out.2 gw cs rfl HF.out.2.2.2.2.2)).1, fun e => by
            have h8 := HZ.out.2 gw cs rfl HF.out.2.2.2.2.2
            have h9 := HBx.out
            unfold Boxed at h9
            rw [e, h9] at h8
            cases h8⟩)
          have hzz : S + 1 + 1 + 1 < wr.heap.size := HBx.out.lt
          have S6 := And.intro hbc (And.intro p0 (And.intro p1 p2))
          refine wp_region_wait (fun w' => w'.cell? ⟨S + 1 + 1 + 1, 0, none⟩ = some (.slice A2 n2 c2) ∧ w'.cell? ⟨gw, k, none⟩ = some (.string ⟨y.toArray⟩) ∧ w'.cell? ⟨S + 1, i, none⟩ = some (.int .i64 (kt : Nat)) ∧ w'.cell? ⟨S, i, none⟩ = some (.int .i64 (pt : Nat))) 22 (by kernel_rfl) ?_
          refine wpAnyW_take 22 (i := 0) (v := .pointer (some ⟨S + 1 + 1 + 1, 0, none⟩)) rfl (by kernel_rfl) (by kernel_rfl) (by kernel_rfl) (by kernel_rfl) (fun _ _ _ h => h) (Or.inl ⟨by rfl, ?_⟩) (by exact S6) ?_
          · intro w5 hSw
            obtain ⟨s1, s2, s3, s4⟩ := hSw
            go_simp
          refine wpAnyW_take 22 (i := 1) (v := .pointer (some ⟨S + 1 + 1 + 1, 0, none⟩)) rfl (by kernel_rfl) (by kernel_rfl) (by kernel_rfl) (by kernel_rfl) (fun _ _ _ h => h) (Or.inl ⟨by rfl, ?_⟩) (by exact S6) ?_
          · intro w5 hSw
            obtain ⟨s1, s2, s3, s4⟩ := hSw
            go_simp
          refine wpAnyW_take 22 (i := 2) (v := .pointer (some ⟨S + 1 + 1 + 1, 0, none⟩)) rfl (by kernel_rfl) (by kernel_rfl) (by kernel_rfl) (by kernel_rfl) (fun _ _ _ h => h) (Or.inl ⟨by rfl, ?_⟩) (by exact S6) ?_
          · intro w5 hSw
            obtain ⟨s1, s2, s3, s4⟩ := hSw
            go_simp
          refine wpAnyW_take 22 (i := 3) (v := .pointer (some ⟨S + 1 + 1 + 1, 0, none⟩)) rfl (by kernel_rfl) (by kernel_rfl) (by kernel_rfl) (by kernel_rfl) (fun _ _ _ h => h) (Or.inl ⟨by rfl, ?_⟩) (by exact S6) ?_
          · intro w5 hSw
            obtain ⟨s1, s2, s3, s4⟩ := hSw
            go_simp
          refine wpAnyW_take 22 (i := 4) (v := .slice A2 n2 c2) rfl (by kernel_rfl) (by kernel_rfl) (by kernel_rfl) (by kernel_rfl) (fun _ _ _ h => h) (Or.inl ⟨by rfl, ?_⟩) (by exact S6) ?_
          · intro w5 hSw
            obtain ⟨s1, s2, s3, s4⟩ := hSw
            go_simp
          refine wpAnyW_take 22 (i := 5) (v := .slice (some ⟨gw, 0, none⟩) m c) rfl (by kernel_rfl) (by kernel_rfl) (by kernel_rfl) (by kernel_rfl) (fun _ _ _ h => h) (Or.inl ⟨by rfl, ?_⟩) (by exact S6) ?_
          · intro w5 hSw
            obtain ⟨s1, s2, s3, s4⟩ := hSw
            go_simp
          refine wpAnyW_take 22 (i := 6) (v := .int .i64 (k : Int)) rfl (by kernel_rfl) (by kernel_rfl) (by kernel_rfl) (by kernel_rfl) (fun _ _ _ h => h) (Or.inl ⟨by rfl, ?_⟩) (by exact S6) ?_
          · intro w5 hSw
            obtain ⟨s1, s2, s3, s4⟩ := hSw
            go_simp
          refine wpAnyW_take 22 (i := 7) (v := .pointer (some ⟨gw, k, none⟩)) rfl (by kernel_rfl) (by kernel_rfl) (by kernel_rfl) (by kernel_rfl) (fun _ _ _ h => h) (Or.inl ⟨by rfl, ?_⟩) (by exact S6) ?_
          · intro w5 hSw
            obtain ⟨s1, s2, s3, s4⟩ := hSw
            go_simp
          refine wpAnyW_take 22 (i := 8) (v := .string ⟨y.toArray⟩) rfl (by kernel_rfl) (by kernel_rfl) (by kernel_rfl) (by kernel_rfl) (fun _ _ _ h => h) (Or.inl ⟨by rfl, ?_⟩) (by exact S6) ?_
          · intro w5 hSw
            obtain ⟨s1, s2, s3, s4⟩ := hSw
            go_simp
          refine wpAnyW_take 22 (i := 9) (v := .slice (some ⟨S + 1, 0, none⟩) 15 15) rfl (by kernel_rfl) (by kernel_rfl) (by kernel_rfl) (by kernel_rfl) (fun _ _ _ h => h) (Or.inl ⟨by rfl, ?_⟩) (by exact S6) ?_
          · intro w5 hSw
            obtain ⟨s1, s2, s3, s4⟩ := hSw
            go_simp
          refine wpAnyW_take 22 (i := 10) (v := .int .i64 (i : Int)) rfl (by kernel_rfl) (by kernel_rfl) (by kernel_rfl) (by kernel_rfl) (fun _ _ _ h => h) (Or.inl ⟨by rfl, ?_⟩) (by exact S6) ?_
          · intro w5 hSw
            obtain ⟨s1, s2, s3, s4⟩ := hSw
            go_simp
          refine wpAnyW_take 22 (i := 11) (v := .pointer (some ⟨S + 1, i, none⟩)) rfl (by kernel_rfl) (by kernel_rfl) (by kernel_rfl) (by kernel_rfl) (fun _ _ _ h => h) (Or.inl ⟨by rfl, ?_⟩) (by exact S6) ?_
          · intro w5 hSw
            obtain ⟨s1, s2, s3, s4⟩ := hSw
            go_simp
          refine wpAnyW_take 22 (i := 12) (v := .int .i64 (kt : Nat)) rfl (by kernel_rfl) (by kernel_rfl) (by kernel_rfl) (by kernel_rfl) (fun _ _ _ h => h) (Or.inl ⟨by rfl, ?_⟩) (by exact S6) ?_
          · intro w5 hSw
            obtain ⟨s1, s2, s3, s4⟩ := hSw
            go_simp
          refine wpAnyW_take 22 (i := 13) (v := .slice (some ⟨S, 0, none⟩) 15 15) rfl (by kernel_rfl) (by kernel_rfl) (by kernel_rfl) (by kernel_rfl) (fun _ _ _ h => h) (Or.inl ⟨by rfl, ?_⟩) (by exact S6) ?_
          · intro w5 hSw
            obtain ⟨s1, s2, s3, s4⟩ := hSw
            go_simp
          refine wpAnyW_take 22 (i := 14) (v := .int .i64 (i : Int)) rfl (by kernel_rfl) (by kernel_rfl) (by kernel_rfl) (by kernel_rfl) (fun _ _ _ h => h) (Or.inl ⟨by rfl, ?_⟩) (by exact S6) ?_
          · intro w5 hSw
            obtain ⟨s1, s2, s3, s4⟩ := hSw
            go_simp
          refine wpAnyW_take 22 (i := 15) (v := .pointer (some ⟨S, i, none⟩)) rfl (by kernel_rfl) (by kernel_rfl) (by kernel_rfl) (by kernel_rfl) (fun _ _ _ h => h) (Or.inl ⟨by rfl, ?_⟩) (by exact S6) ?_
          · intro w5 hSw
            obtain ⟨s1, s2, s3, s4⟩ := hSw
            go_simp
          refine wpAnyW_take 22 (i := 16) (v := .int .i64 (pt : Nat)) rfl (by kernel_rfl) (by kernel_rfl) (by kernel_rfl) (by kernel_rfl) (fun _ _ _ h => h) (Or.inl ⟨by rfl, ?_⟩) (by exact S6) ?_
          · intro w5 hSw
            obtain ⟨s1, s2, s3, s4⟩ := hSw
            go_simp
          refine wpAnyW_take 22 (i := 17) (v := .agg #[.string ⟨y.toArray⟩, .int .i64 (kt : Nat), .int .i64 (pt : Nat)]) rfl (by kernel_rfl) (by kernel_rfl) (by kernel_rfl) (by kernel_rfl) (fun _ _ _ h => h) (Or.inl ⟨by rfl, ?_⟩) (by exact S6) ?_
          · intro w5 hSw
            obtain ⟨s1, s2, s3, s4⟩ := hSw
            go_simp
          refine wpAnyW_one (i := 18) (by kernel_rfl) rfl (fun K hK => ?_)
          go_simp
          have hka : ∀ j, j < wr.heap.size → (wr.drew.alloc (.cells #[.string ⟨y.toArray⟩, .int .i64 (kt : Nat), .int .i64 (pt : Nat)] 23)).heap[j]? = wr.heap[j]? := fun j hj => Below.heap_alloc wr.drew _ j hj
          refine hK.out _ _ (fun _ => ⟨(World.cell?_of_block (a := ⟨S + 1 + 1 + 1, 0, none⟩) (hka _ hzz)).trans hbc, (World.cell?_of_block (a := ⟨gw, k, none⟩) (hka _ HGw.out.1)).trans p0, (World.cell?_of_block (a := ⟨S + 1, i, none⟩) (hka (S + 1) (by omega))).trans p1, (World.cell?_of_block (a := ⟨S, i, none⟩) (hka S (by omega))).trans p2⟩) ?_
          refine wpAnyW_one (i := 19) (by kernel_rfl) rfl (fun K hK => ?_)
          refine step_append_ops rfl _ _ rfl (S + 1 + 1 + 1 + 1) A2 n2 c2 l rfl (HOw.out _ hka) ⟨wr.heap.size, 0, none⟩ 1 1 [⟨y, kt, pt⟩] rfl rfl (by decide)
            (fun j u hj => by
              have h9 := World.alloc_heap_new wr.drew (.cells #[.string ⟨y.toArray⟩, .int .i64 (kt : Nat), .int .i64 (pt : Nat)] 23)
              rw [flO_one] at hj
              rw [add_zero']
              show (wr.drew.alloc (.cells #[.string ⟨y.toArray⟩, .int .i64 (kt : Nat), .int .i64 (pt : Nat)] 23)).cell? ⟨wr.heap.size, j, none⟩ = some u
              rw [cell_of_row _ wr.heap.size j _ _ (0, 0) h9]
              simpa using hj)
            (by omega) (by have := HZ.out.1.le; show _ ≤ (wr.drew.alloc _).heap.size; rw [World.size_alloc]; show _ ≤ wr.heap.size + 1; omega) ?_
          intro g3 c3 w3 ho3 hb3 hg3
          have hbn : Below wr.heap.size wr (wr.drew.alloc (.cells #[.string ⟨y.toArray⟩, .int .i64 (kt : Nat), .int .i64 (pt : Nat)] 23)) := (below_drew (Below.refl _ wr)).alloc (Nat.le_refl _) _
          have hN3 := HZ.out.1.stored HSS.out hbn HBx.out ho3 (by rw [List.length_append, HF.out.2.2.2.2.1]; rfl) hb3
          have hgw3 : w3.heap[gw]? = wr.heap[gw]? := (hg3.block gw (by exact Nat.lt_of_lt_of_le HGw.out.1 hbn.size) (fun e => by
            obtain ⟨cs2, h2⟩ := own_ty (HOw.out _ (fun j hj => hbn.block j hj)) e.symm
            have h3 := (hbn.block gw HGw.out.1).trans (HZ.out.2 gw cs rfl HF.out.2.2.2.2.2)
            rw [h3] at h2
            cases h2)).trans (hbn.block gw HGw.out.1)
          have hbx3 : Boxed w3 (S + 1 + 1 + 1) 77 (.slice A2 n2 c2) := ((hb3.block (S + 1 + 1 + 1) (by omega)).trans (hbn.block (S + 1 + 1 + 1) HBx.out.lt)).trans HBx.out
          have hc3 := hbx3.cell
          have hf3 := hbx3.frozen
          have hkp : ∀ j, j < S + 1 + 1 + 1 + 1 → w3.heap[j]? = wr.heap[j]? := fun j hj => (hb3.block j hj).trans (hbn.block j (by have := HZ.out.1.le; omega))
          have K3 := And.intro hc3 (And.intro ((World.cell?_of_block (a := ⟨gw, k, none⟩) hgw3).trans p0) (And.intro ((World.cell?_of_block (a := ⟨S + 1, i, none⟩) (hkp (S + 1) (by omega))).trans p1) ((World.cell?_of_block (a := ⟨S, i, none⟩) (hkp S (by omega))).trans p2)))
          have HN3 := Lib.hid hN3
          have HW3 := Lib.hid hgw3
          have HK3 := Lib.hid K3
          clear hN3 hgw3 ho3 hb3 hg3 K3 hkp hka
          refine hK.out _ _ (fun _ => HK3.out) ?_
          refine wpAnyW_one (i := 20) (by kernel_rfl) rfl (fun K hK => ?_)
          go_simp
          refine hK.out _ _ (fun _ => HK3.out) ?_
          refine wpAnyW_one (i := 21) (by kernel_rfl) rfl (fun K hK => ?_)
          go_simp
          refine hK.out _ _ (fun _ => HK3.out) ?_
          refine wpAnyW_one (i := 22) (by kernel_rfl) rfl (fun K hK => ?_)
          go_simp
          refine hK.out _ _ (fun h => absurd h (by simp)) ?_
          refine wpAnyW_done (by kernel_rfl) ?_ _
          have HE := Lib.hid (rRow_step HSm.out.2.2 HF.out.1 HF.out.2.1 HF.out.2.2.1 HF.out.2.2.2.1)
          clear hc3 hf3 hbx3
          go_wp2
          go_roundw
          case rel =>
            refine ⟨k + 1, rfl, HLt.out, Lib.hid ⟨?_, ?_⟩⟩
            · have h9 := HN3.out
              rw [← HE.out] at h9
              exact h9
            · intro gw2 cs2 e2 h2
              cases e2
              exact (Below.heap_setCell _ _ _ gw (by show gw ≠ S + 1 + 1 + 1; exact HGw.out.2)).trans (HW3.out.trans (HZ.out.2 gw cs2 rfl h2))
          case measure =>
            have := HLt.out
            show m - ((k : Int) + 1).toNat < m - ((k : Int)).toNat
            omega
        · have ek : k = m := by omega
          subst ek
          have HE := Lib.hid (show rRows i ++ (rRow i).take k = rRows (i + 1) by
            rw [rRows, List.take_of_length_le (by unfold rRow; rw [List.length_map, HSm.out.2.2, HM.out]; exact Nat.le_refl _)])
          have HZ2 := Lib.hid HZ.out.1
          rw [HE.out] at HZ2
          clear hlt hk
          go_wp2
          go_roundw
          case rel => exact ⟨i + 1, rfl, HSm.out.2.1, HZ2⟩
          case measure =>
            have := HSm.out.2.1
            show (15 - ((i : Int) + 1).toNat) < (15 - (i : Int).toNat)
            omega
    · have ei : i = 15 := by omega
      subst ei
      clear hlt hi
      go_wp2
      go_ret
      obtain ⟨A, c, h1, h2⟩ := HR.out.row
      exact ⟨S + 1 + 1 + 1, rfl, ⟨A, c, h1, owns_base0 h2⟩, by rw [HSS.out]; omega, HR.out.bel⟩
end Go.Proofs.YtfdcponamkfcaaaDoor
