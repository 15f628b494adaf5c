import Derived.Test.YtfdcponamkfcaaaDoorNe
namespace Go.Proofs.YtfdcponamkfcaaaDoor
open Go.RowKit Ho Go.Maps Go.Shelf Go.Sort Hb
set_option linter.unusedVariables false
set_option linter.unusedSimpArgs false
attribute [local go_sem] Oper.semAt_some
/-! ### All: the iterator over a table -/
/-- the block of the slice in a box, if there is such a box -/
def ownB (q : Option Nat) (w : World) : Option Nat :=
  match q with
  | none => none
  | some B => match w.cell? ⟨B, 0, none⟩ with
    | some (.slice (some a) _ _) => some a.block
    | _ => none
/-- what a round of a range over a table keeps: all cells from n₀ on, but those of the slice in box q -/
structure KpO (n₀ : Nat) (q : Option Nat) (W W' : World) : Prop where
  size : W.heap.size ≤ W'.heap.size
  same : ∀ b o, n₀ ≤ b → W.heap[b]? = some o → o.isCells = true → ownB q W ≠ some b → W'.heap[b]? = some o
  own : ∀ b, ownB q W' = some b → ownB q W = some b ∨ W.heap.size ≤ b
theorem KpO.t {n₀ : Nat} {q : Option Nat} {A B C : World} (h : KpO n₀ q A B) (k : KpO n₀ q B C) : KpO n₀ q A C := by
  refine ⟨Nat.le_trans h.size k.size, fun b o hb ho hc hn => ?_, fun b hb => ?_⟩
  · have hlt := (Array.getElem?_eq_some_iff.1 ho).1
    refine k.same b o hb (h.same b o hb ho hc hn) hc (fun e => ?_)
    rcases h.own b e with e | e
    · exact hn e
    · omega
  · rcases k.own b hb with e | e
    · exact h.own b e
    · exact .inr (Nat.le_trans h.size e)
theorem ownB_same {q : Option Nat} {W W' : World} (h : ∀ B, q = some B → W'.heap[B]? = W.heap[B]?) : ownB q W' = ownB q W := by
  cases q with
  | none => rfl
  | some B =>
    unfold ownB
    dsimp only
    rw [World.cell?_of_block (a := ⟨B, 0, none⟩) (h B rfl)]
theorem KpO.b {n₀ : Nat} {q : Option Nat} {w : World} (hq : ∀ B, q = some B → B < w.heap.size) (W : World) (l : Nat) (o o' : Obj) (hl : w.heap.size ≤ l) (h : W.heap[l]? = some o) (hc : o.isCells = false) (_ : o.isWalk = false) : KpO n₀ q W (W.putObj l o') := by
  have hs : (W.putObj l o').heap.size = W.heap.size := by simp
  refine ⟨by omega, fun b o2 hb ho hc2 hn => ?_, fun b hb => .inl ?_⟩
  · have : l ≠ b := fun e => by subst e; rw [h] at ho; cases ho; rw [hc] at hc2; cases hc2
    exact (World.putObj_heap_other this.symm).trans ho
  · rw [← hb]
    exact (ownB_same (fun B hB => World.putObj_heap_other (fun e => by have := hq B hB; omega))).symm
theorem KpO.refl (n₀ : Nat) (q : Option Nat) (W : World) : KpO n₀ q W W := ⟨Nat.le_refl _, fun _ _ _ h _ _ => h, fun _ h => .inl h⟩
/-- what is only new blocks -/
theorem KpO.grown {n₀ : Nat} {q : Option Nat} {W W' : World} (hs : W.heap.size ≤ W'.heap.size) (hb : ∀ b, b < W.heap.size → W'.heap[b]? = W.heap[b]?) (hq : ∀ B, q = some B → B < W.heap.size) : KpO n₀ q W W' :=
  ⟨hs, fun b o _ ho _ _ => (hb b (Array.getElem?_eq_some_iff.1 ho).1).trans ho, fun b h => .inl (by rw [← h]; exact (ownB_same (fun B hB => hb B (hq B hB))).symm)⟩
/-- the classes up to j -/
def upto (L : List OpV) (j : Nat) : List OpV := (List.range j).flatMap (fun i => clL L (i + 1))
theorem upto_succ (L : List OpV) (j : Nat) : upto L (j + 1) = upto L j ++ clL L (j + 1) := by simp [upto, List.range_succ]
theorem upto_three {L : List OpV} (h : ∀ x ∈ L, cls x.t ≠ 0) : (upto L 3).Perm L := by
  have e : upto L 3 = clL L 1 ++ clL L 2 ++ clL L 3 := by rw [upto_succ, upto_succ, upto_succ]; simp [upto]
  rw [e]
  clear e
  induction L with
  | nil => exact List.Perm.refl _
  | cons x L ih =>
    have ih' := ih (fun y hy => h y (List.mem_cons_of_mem _ hy))
    have h0 := h x (List.mem_cons_self ..)
    have h3 := cls_le3 x.t
    have key : ∀ c, clL (x :: L) c = if cls x.t = c then x :: clL L c else clL L c := by
      intro c
      unfold clL
      by_cases hc : cls x.t = c
      · rw [if_pos hc, List.filter_cons_of_pos (by simpa using hc)]
      · rw [if_neg hc, List.filter_cons_of_neg (by simpa using hc)]
    rw [key 1, key 2, key 3]
    have h123 : cls x.t = 1 ∨ cls x.t = 2 ∨ cls x.t = 3 := by omega
    rcases h123 with e | e | e
    · rw [if_pos e, if_neg (by omega), if_neg (by omega)]
      exact List.Perm.cons x ih'
    · rw [if_neg (by omega), if_pos e, if_neg (by omega), List.append_assoc, List.cons_append]
      refine List.perm_middle.trans (List.Perm.cons x ?_)
      rw [← List.append_assoc]; exact ih'
    · rw [if_neg (by omega), if_neg (by omega), if_pos e]
      exact List.perm_middle.trans (List.Perm.cons x ih')
/-- a table whose names are unlike, whose types are types, and that is not empty -/
structure GoodL (L : List OpV) : Prop where
  uq : Uq L
  cl : ∀ x ∈ L, cls x.t ≠ 0
  ne : L ≠ []
theorem GoodL.srt_len {L : List OpV} (_ : GoodL L) : (srt L).length = L.length := (srt_perm L).length_eq
abbrev SortOk : Prop := ∀ (blk off cap : Nat) (d : Array OpV) (w : World), HoldsK encO 3 w blk off d → blk < w.heap.size → d.size < 4611686018427387904 →
      Calls Tryd.prog 40 #[.slice (some ⟨blk, off, none⟩) d.size cap, .func (.func 41) #[] #[]] w fun e w' => e = .returned (.tuple #[]) ∧ ∃ d' n os, PermIn 0 d.size d d' ∧ SortedIn ltO 0 d.size d' ∧ w' = sortWorldK encO 3 w blk off n d' os
theorem tab_map {w : World} {g b1 b2 b3 N : Nat} {L : List OpV} (h : TabAt w g b1 b2 b3 N L) {j : Nat} (hj : j < 3) : ∃ b, w.cell? ⟨g, j, none⟩ = some (.map (some b)) ∧ MapOf Tryd.prog 9 w b N (j + 1) L ∧ b < w.heap.size := by
  obtain ⟨q0, q1, q2⟩ := tab_cells h.1 (Below.refl _ _)
  obtain ⟨h0, m1, m2, m3, _⟩ := h
  have h012 : j = 0 ∨ j = 1 ∨ j = 2 := by omega
  rcases h012 with rfl | rfl | rfl
  · exact ⟨b1, q0, m1, m1.lt⟩
  · exact ⟨b2, q1, m2, m2.lt⟩
  · exact ⟨b3, q2, m3, m3.lt⟩
theorem TabAt.below' {w w' : World} {g b1 b2 b3 N : Nat} {L : List OpV} (h : TabAt w g b1 b2 b3 N L) (hb : Below w.heap.size w w') : TabAt w' g b1 b2 b3 N L := by
  obtain ⟨h0, m1, m2, m3, hd⟩ := h
  exact ⟨(hb.block g (Array.getElem?_eq_some_iff.1 h0).1).trans h0, m1.below hb m1.lt, m2.below hb m2.lt, m3.below hb m3.lt, hd⟩
theorem cell_lt {w : World} {B o : Nat} {v : Value} (h : w.cell? ⟨B, o, none⟩ = some v) : B < w.heap.size := by
  refine Decidable.byContradiction fun hn => ?_
  have : w.heap[B]? = none := Array.getElem?_eq_none (by omega)
  simp [World.cell?, this] at h
theorem upto_le {L : List OpV} (h : ∀ x ∈ L, cls x.t ≠ 0) {j : Nat} (hj : j < 3) : (upto L j).length + (clL L (j + 1)).length ≤ L.length := by
  have e3 := (upto_three h).length_eq
  rw [← List.length_append, ← upto_succ]
  rw [upto_succ, upto_succ, upto_succ] at e3
  simp only [List.length_append] at e3
  have h012 : j = 0 ∨ j = 1 ∨ j = 2 := by omega
  rcases h012 with rfl | rfl | rfl
  · rw [upto_succ]; simp only [List.length_append]; omega
  · rw [upto_succ, upto_succ]; simp only [List.length_append]; omega
  · rw [upto_succ, upto_succ, upto_succ]; simp only [List.length_append]; omega
theorem seq_bound {L : List OpV} {k j : Nat} (hN : L.length * 32 ≤ 140737488355328) (hc : ∀ x ∈ L, cls x.t ≠ 0) (hk : k = (upto L j).length) (hj : j < 3) : (k + (clL L (j + 1)).length) * 32 ≤ 140737488355328 := by
  have := upto_le hc hj
  omega
/-- one class more -/
theorem seq_step {w : World} {n₀ k c b N j : Nat} {A : Option Addr} {xs L : List OpV} (hrow : w.ownsRow n₀ 23 3 (.slice A k c) k (flO xs)) (hB : n₀ ≤ w.heap.size) (hm : MapOf Tryd.prog 9 w b N (j + 1) L) (hu : Uq L) (hN : (k + (clL L (j + 1)).length) * 32 ≤ 140737488355328) :
    Calls Tryd.prog 38 #[.slice A k c, .func (.func 50) #[] #[.pointer (some ⟨w.heap.size, 0, none⟩)]] (w.alloc (.cells #[.map (some b)] 62)) fun e w' =>
      ∃ A' k' c' ys, e = .returned (.slice A' k' c') ∧ ys.Perm (clL L (j + 1)) ∧ k' = k + ys.length ∧ w'.ownsRow n₀ 23 3 (.slice A' k' c') k' (flO (xs ++ ys)) ∧ Below n₀ w w' := by
  have hb1 : Below w.heap.size w (w.alloc (.cells #[.map (some b)] 62)) := (Below.refl _ w).alloc (Nat.le_refl _) _
  have h := callsIn_wide.1 (appendSeq_in Fence.wide 3 trivial rfl (by omega) 50 #[.pointer (some ⟨w.heap.size, 0, none⟩)] trivial (enters_of Tryd.func50 (by kernel_rfl) rfl)
    (hrow.alloc (.cells #[.map (some b)] 62)) (by simp; omega) hN
    (values_stops Fence.wide 2 trivial rfl (by omega) w.heap.size b N (j + 1) L hu (w.alloc (.cells #[.map (some b)] 62)) (by simp) (Boxed.new w 62 (.map (some b))).cell (hm.alloc _)))
  refine h.mono fun e w' ⟨v, ys, he, hS, hle, hr, hb⟩ => ?_
  have hf : ∃ A' c', v = .slice A' (k + ys.length) c' := by
    rcases hr.2 with ⟨h1, h2⟩ | ⟨g', cap, cur, h1, _⟩
    · exact ⟨none, 0, by rw [h1, h2]⟩
    · exact ⟨_, cap, h1⟩
  obtain ⟨A', c', rfl⟩ := hf
  exact ⟨A', _, c', ys, he, hS, rfl, by rw [show flO (xs ++ ys) = flO xs ++ flO ys by simp [flO]]; exact hr, (hb1.mono hB).trans hb⟩
set_option maxRecDepth 100000 in
set_option maxHeartbeats 4000000 in
theorem all1_in (hsort : SortOk) (n : Nat) (hn : 1 ≤ n) (l Bo g b1 b2 b3 N n₀ : Nat) (q : Option Nat) (L : List OpV) (hL : GoodL L) (hN : L.length * 32 ≤ 140737488355328) (J Jx : List OpV → World → Prop)
    (hY : ∀ pre x W, J pre W → pre.length < (srt L).length → YieldAt Fence.wide (n - 1) Tryd.prog l #[opV x] W fun e W' =>
      (e = .returned (.bool true) ∧ J (pre ++ [x]) W' ∧ KpO n₀ q W W') ∨ (e = .returned (.bool false) ∧ Jx (pre ++ [x]) W'))
    (W : World) (hJ : AbidesFrom W.heap.size J) (hBo : W.cell? ⟨Bo, 0, none⟩ = some (.pointer (some ⟨g, 0, none⟩))) (hT : TabAt W g b1 b2 b3 N L) (hn₀ : n₀ ≤ W.heap.size)
    (hq : ∀ B, q = some B → B < W.heap.size) (hqo : ∀ b, ownB q W = some b → b < W.heap.size) (h0 : J [] W) :
    CallsIn Fence.wide n Tryd.prog 37 #[.func (.yield l) #[] #[], .pointer (some ⟨Bo, 0, none⟩)] W fun e W' => (∃ v, e = .returned v) ∧
      ((∃ xs, xs = srt L ∧ J xs W') ∨ (∃ pre, pre <+: srt L ∧ Jx pre W')) := by
  refine callsIn_of_wp Tryd.func37 rfl trivial ?_ rfl
  simp only [Tryd.ntmps37, List.size_toArray, List.length_cons, List.length_nil, Nat.reduceAdd, Nat.reduceSub, Array.replicate_succ, Array.replicate_zero, List.push_toArray, List.append_toArray, List.nil_append, List.cons_append]
  have HG := Lib.hid (And.intro hL (And.intro hN hn₀))
  have HY := Lib.hid hY
  have HJ := Lib.hid hJ
  have HT := Lib.hid hT
  have HQ := Lib.hid (And.intro hq hqo)
  have H0 := Lib.hid h0
  have HBo := Lib.hid hBo
  clear hL hN hn₀ hY hJ hT hq hqo h0
  gi_wp2
  gi_loopw [3, 4, 9] (fun vl vc vk wr => ∃ (j k c : Nat) (A : Option Addr) (xs : List OpV), vk = .int .i64 (j : Int) ∧ j ≤ 3 ∧ vl = .slice A k c ∧ xs.Perm (upto L j) ∧ k = (upto L j).length ∧ Hid (wr.ownsRow W.heap.size 23 3 (.slice A k c) k (flO xs)) ∧ Hid (Below W.heap.size W wr))
    (fun vl vc vk wr => (3 - intOf vk).toNat)
  case atStart =>
    exact ⟨0, 0, 0, none, [], rfl, by omega, rfl, List.Perm.refl _, rfl, Lib.hid ⟨rfl, .inl ⟨rfl, rfl⟩⟩, Lib.hid (Below.refl _ _)⟩
  case round =>
    obtain ⟨j, k, c, A, xs, rfl, hj3, rfl, hp, hk, hrow, hB⟩ := hrel
    have HROW := hrow
    have HB := hB
    have HP := Lib.hid (And.intro hp (And.intro hk hj3))
    have bo : wr.cell? ⟨Bo, 0, none⟩ = some (.pointer (some ⟨g, 0, none⟩)) := (hB.cell (p := ⟨Bo, 0, none⟩) (cell_lt HBo.out)).trans HBo.out
    have hT1 := HT.out.below' hB
    by_cases hlt : j < 3
    · obtain ⟨b, hcell, hmap, hblt⟩ := tab_map hT1 hlt
      have HM := Lib.hid hmap
      have HJ3 := Lib.hid hlt
      have j0 : (0 : Int) ≤ (j : Int) := by omega
      have j3 : (j : Int) < 3 := by omega
      clear hp hk hrow hB hT1 hmap hj3 hlt hBo
      gi_wp2_with (first
        | (refine ⟨trivial, ?_⟩; gi_at_call 39; refine (values_in Fence.wide _ trivial rfl _ _).mono ?_; rintro e w' ⟨rfl, rfl⟩)
        | (refine ⟨trivial, ?_⟩; gi_at_call 38; refine (callsIn_wide.2 (seq_step HROW.out HB.out.size HM.out HG.out.1.uq (seq_bound HG.out.2.1 HG.out.1.cl HP.out.2.1 HJ3.out))).mono ?_; rintro e w2 ⟨A2, k2, c2, ys, rfl, hys, hk2, hrow2, hb2⟩; have HR2 := Lib.hid (And.intro hys (And.intro hk2 (And.intro hrow2 hb2))); clear hys hk2 hrow2 hb2))
      gi_wp2
      go_roundw
      case rel =>
        obtain ⟨h1, h2, h3, h4⟩ := HR2.out
        refine ⟨j + 1, k2, c2, A2, xs ++ ys, rfl, HJ3.out, rfl, ?_, ?_, Lib.hid h3, Lib.hid (HB.out.trans h4)⟩
        · rw [upto_succ]; exact HP.out.1.append h1
        · have h5 := HP.out.2.1
          rw [h2, h1.length_eq, upto_succ, List.length_append, ← h5]
      case measure =>
        have := HJ3.out
        show (3 - ((j : Int) + 1)).toNat < (3 - (j : Int)).toNat
        omega
    · have e3 : j = 3 := by omega
      subst e3
      have hpL : xs.Perm L := hp.trans (upto_three HG.out.1.cl)
      have hxl : xs.length = k := by have h9 := hrow.1; rw [flO_length] at h9; omega
      have hKL : k = (srt L).length := by rw [HG.out.1.srt_len, ← hpL.length_eq, hxl]
      have hk0 : 0 < k := by
        rw [hKL, HG.out.1.srt_len]
        exact List.length_pos_iff.2 HG.out.1.ne
      have hform : ∃ gA, A = some ⟨gA, 0, none⟩ ∧ W.heap.size ≤ gA := by
        rcases hrow.2 with ⟨h1, h2⟩ | ⟨g', cap, cur, h1, h2, _⟩
        · omega
        · injection h1 with a _ _
          exact ⟨g', a, h2⟩
      obtain ⟨gA, rfl, hgA⟩ := hform
      have HS := Lib.hid (sort_any hsort hrow (by have := HG.out.2.1; have := HG.out.1.srt_len; omega) hpL HG.out.1.uq)
      have HA := Lib.hid (And.intro hgA hKL)
      have hk0' : (0 : Int) < (k : Int) := by omega
      have hkI : (k : Int) ≤ 4398046511104 := by have := HG.out.2.1; have := HG.out.1.srt_len; omega
      clear hp hk hrow hB hT1 hj3 hlt hBo hpL hxl hKL hgA HROW bo
      gi_wp2_with (refine ⟨trivial, ?_⟩; gi_at_call 40; refine (callsIn_wide.2 HS.out).mono ?_; rintro e w2 ⟨rfl, hrow2, hg2⟩; have HR2 := Lib.hid (And.intro hrow2 hg2); clear hrow2 hg2)
      have hB2 : Below W.heap.size W w2 := HB.out.grown HR2.out.2 HB.out.size (fun k e => by cases e; exact HA.out.1)
      have hJ2 : J [] w2 := HJ.out [] W w2 none H0.out ⟨hB2.os, hB2.tape, hB2.output, hB2.size, fun k hk _ => hB2.block k hk⟩ (fun r e => by cases e)
      have hO2 : ownB q w2 ≠ some gA := by
        rw [ownB_same (W := W) (fun B hB => hB2.block B (HQ.out.1 B hB))]
        intro e
        have := HQ.out.2 gA e
        have := HA.out.1
        omega
      have H2 := Lib.hid (And.intro hJ2 (And.intro hO2 (And.intro HR2.out.1 hB2.size)))
      clear hB2 hJ2 hO2
      gi_loopw [6, 26] (fun v6 vi wq => ∃ (i : Nat), vi = .int .i64 (i : Int) ∧ i ≤ k ∧ Hid (J ((srt L).take i) wq ∧ ownB q wq ≠ some gA ∧ RowO wq gA (srt L) ∧ W.heap.size ≤ wq.heap.size))
        (fun v6 vi wq => ((k : Int) - intOf vi).toNat)
      case atStart =>
        exact ⟨0, rfl, Nat.zero_le _, Lib.hid (by rw [List.take_zero]; exact H2.out)⟩
      case round =>
        obtain ⟨i, rfl, hik, HI⟩ := hrel
        by_cases hlt : i < k
        · have hlt' : (i : Int) < (k : Int) := by omega
          have hi0 : (0 : Int) ≤ (i : Int) := by omega
          have hil : i < (srt L).length := by rw [← HA.out.2]; exact hlt
          obtain ⟨q0, q1, q2⟩ := HI.out.2.2.1.cells hil
          obtain ⟨x, hx⟩ : ∃ x, (srt L).toArray[i]! = x := ⟨_, rfl⟩
          rw [hx] at q0 q1 q2
          have htk : (srt L).take (i + 1) = (srt L).take i ++ [x] := by
            rw [List.take_succ_eq_append_getElem hil, ← hx, getElem!_pos _ i (by simpa using hil)]
            simp
          have HTK := Lib.hid htk
          have HLT := Lib.hid (And.intro hlt hil)
          have hJ3 : J ((srt L).take i) (wr.alloc (.cells (encO x).toArray 23)) := HJ.out _ wr _ none HI.out.1 (World.grownBy_alloc _ _ _) (fun r e => by cases e)
          obtain ⟨fn, tmps, assign, body, hy, hR⟩ := HY.out _ x _ hJ3 (by rw [List.length_take]; omega)
          clear hx htk hJ3 hlt hil hik
          rw [opV_enc] at hy
          unfold encO at *
          gi_wp2
          refine hR.mono ?_
          rintro e W3 (⟨rfl, hJ3, hk3⟩ | ⟨rfl, hJx3⟩)
          · have hsz := hk3.size
            have HN : J ((srt L).take (i + 1)) W3 ∧ ownB q W3 ≠ some gA ∧ RowO W3 gA (srt L) ∧ W.heap.size ≤ W3.heap.size := by
              have hgl := HI.out.2.2.1.lt
              have hwz := HI.out.2.2.2
              have hal : ∀ b, b < wr.heap.size → (wr.alloc (.cells #[.string ⟨x.n.toArray⟩, .int .i64 x.t, .int .i64 x.p] 23)).heap[b]? = wr.heap[b]? := fun b hb => Below.heap_alloc _ _ b hb
              have hown : ownB q (wr.alloc (.cells #[.string ⟨x.n.toArray⟩, .int .i64 x.t, .int .i64 x.p] 23)) ≠ some gA := by
                rw [ownB_same (fun B hB => hal B (by have := HQ.out.1 B hB; omega))]
                exact HI.out.2.1
              obtain ⟨_, o, ho, hoc⟩ := HI.out.2.2.1
              have ho2 := (hal gA hgl).trans ho
              refine ⟨by rw [HTK.out]; exact hJ3, fun e => ?_, ?_, ?_⟩
              · rcases hk3.own gA e with e | e
                · exact hown e
                · simp at e; omega
              · exact HI.out.2.2.1.same ((hk3.same gA o (Nat.le_trans HG.out.2.2 HA.out.1) ho2 hoc hown).trans ho.symm)
              · simp at hsz; omega
            have HN' := Lib.hid HN
            clear HN hJ3 hk3 hsz
            gi_wp2
            go_roundw
            case rel => exact ⟨i + 1, rfl, HLT.out.1, HN'⟩
            case measure =>
              have := HLT.out.1
              show ((k : Int) - ((i : Int) + 1)).toNat < ((k : Int) - (i : Int)).toNat
              omega
          · have HX := Lib.hid hJx3
            clear hJx3
            gi_wp2
            refine bodyPost_ret (results_none rfl _ _ _) rfl ?_
            refine ⟨⟨_, rfl⟩, .inr ⟨_, ?_, HX.out⟩⟩
            rw [← HTK.out]
            exact List.take_prefix _ _
        · have e4 : i = k := by omega
          have HJE := Lib.hid (show J (srt L) wr by
            have := HI.out.1
            rw [e4, HA.out.2, List.take_length] at this
            exact this)
          subst e4
          clear hlt hik
          gi_wp2
          go_end0
          exact ⟨⟨_, rfl⟩, .inl ⟨_, rfl, HJE.out⟩⟩
/-- a range over a table, as the laws ask it -/
theorem all_stops (hsort : SortOk) (n : Nat) (hn : 1 ≤ n) (Bo g b1 b2 b3 N : Nat) (q : Option Nat) (L : List OpV) (hL : GoodL L) (hN : L.length * 32 ≤ 140737488355328) (w : World) (hBo : w.cell? ⟨Bo, 0, none⟩ = some (.pointer (some ⟨g, 0, none⟩))) (hT : TabAt w g b1 b2 b3 N L)
    (hq : ∀ B, q = some B → B < w.heap.size) (hqo : ∀ b, ownB q w = some b → b < w.heap.size) :
    SeqStopsK Fence.wide n Tryd.prog 37 #[.pointer (some ⟨Bo, 0, none⟩)] (fun x => #[opV x]) (KpO w.heap.size q) (fun xs => xs = srt L) (fun pre => pre <+: srt L) (srt L).length w := fun l J Jx W hW hJ _ hY h0 => by
  have e1 : ∀ B, q = some B → W.heap[B]? = w.heap[B]? := fun B hB => hW.block B (hq B hB)
  exact all1_in hsort n hn l Bo g b1 b2 b3 N w.heap.size q L hL hN J Jx hY W hJ ((hW.cell (p := ⟨Bo, 0, none⟩) (cell_lt hBo)).trans hBo) (hT.below' hW) hW.size (fun B hB => Nat.lt_of_lt_of_le (hq B hB) hW.size) (fun b hb => by rw [ownB_same e1] at hb; exact Nat.lt_of_lt_of_le (hqo b hb) hW.size) h0
set_option maxHeartbeats 1000000 in
theorem all_in (p : Option Addr) (w : World) :
    Calls Tryd.prog 22 #[.pointer p] w fun e w' => e = .returned (.func (.func 37) #[] #[.pointer (some ⟨w.heap.size, 0, none⟩)]) ∧ w' = w.alloc (.cells #[.pointer p] 31) := by
  go_enter Tryd.func22, Tryd.ntmps22
  go_wp2
  go_ret
  exact ⟨rfl, rfl⟩
end Go.Proofs.YtfdcponamkfcaaaDoor
