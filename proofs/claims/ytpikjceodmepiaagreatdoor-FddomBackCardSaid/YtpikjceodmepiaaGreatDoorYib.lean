import Derived.Test.YtpikjceodmepiaaGreatDoorYhb
set_option linter.unusedVariables false
set_option linter.unusedSimpArgs false
namespace Go.Proofs.YtpikjceodmepiaaGreatDoor
open Go.RowKit Hb Hf
set_option linter.unusedVariables false
set_option linter.unusedSimpArgs false
/-! ### what is not wanted is taken without a look -/
section
variable {P : Program} {md : Region.Mode} {ops : Array Oper} {Q : Exit → Act → World → Prop} {S : World → Prop} {st : Nat}
theorem tkS (i : Nat) {oi : Oper} {fuel : Nat} {listed : Array Bool} {a : Act} {w : World} (hS : S w) (hi : ops[i]? = some oi) (hB : takeB md ops st [] listed i = true) (hQ : ∀ c a w, Q (.panic c) (a.put oi.dst undef) w → Q (.panic c) a w)
    (hg : Region.wanted oi (yielded ops a.tmps) = false) (h : wpAnyW P md ops Q S st fuel (listed.setIfInBounds i true) (a.put oi.dst undef) w) : wpAnyW P md ops Q S st (fuel + 1) listed a w := by
  obtain ⟨h1, h2, h3, k, h4⟩ := takeB_spec hi hB
  simp only [Bool.and_eq_true] at h4
  obtain ⟨⟨⟨⟨⟨⟨⟨⟨⟨⟨k1, k2⟩, k3⟩, k4⟩, k5⟩, _⟩, _⟩, _⟩, _⟩, k6⟩, k7⟩ := h4
  exact wpAnyW_take k hi h1 h3 k1 (by simp only [k2, k3, k4, k5, k6, k7, Bool.and_self]) hQ (.inr ⟨hg, rfl⟩) hS h
end
/-! ### regions that only read (their callees may make memory): S holds all the way -/
section
variable {P : Program} {md : Region.Mode} {ops : Array Oper} {Q : Exit → Act → World → Prop} {S : World → Prop}
def takeH (md : Region.Mode) (ops : Array Oper) (listed : Array Bool) (i : Nat) : Bool := Region.noSelect ops && Region.free md ops listed i && (Region.ready md ops listed).contains i
theorem tkH (i : Nat) {oi : Oper} {v : Value} {fuel : Nat} {listed : Array Bool} {a : Act} {w : World} (hS : S w) (hi : ops[i]? = some oi) (hB : takeH md ops listed i = true) (hQ : ∀ c a w, Q (.panic c) (a.put oi.dst v) w → Q (.panic c) a w)
    (hg : Region.wanted oi (yielded ops a.tmps) = true) (hy : ∀ z, S z → (execOp a.eval oi).run P z = .ok (.value v) z) (h : wpAnyH P md ops Q S fuel (listed.setIfInBounds i true) (a.put oi.dst v) w) : wpAnyH P md ops Q S (fuel + 1) listed a w := by
  unfold takeH at hB
  simp only [Bool.and_eq_true] at hB
  exact wpAnyH_take hi hB.1.1 hB.1.2 hB.2 hQ (.inl ⟨hg, hy⟩) hS h
theorem tkI (i : Nat) {oi : Oper} {fuel : Nat} {listed : Array Bool} {a : Act} {w : World} (hS : S w) (hi : ops[i]? = some oi) (hB : takeH md ops listed i = true) (hQ : ∀ c a w, Q (.panic c) (a.put oi.dst undef) w → Q (.panic c) a w)
    (hg : Region.wanted oi (yielded ops a.tmps) = false) (h : wpAnyH P md ops Q S fuel (listed.setIfInBounds i true) (a.put oi.dst undef) w) : wpAnyH P md ops Q S (fuel + 1) listed a w := by
  unfold takeH at hB
  simp only [Bool.and_eq_true] at hB
  exact wpAnyH_take hi hB.1.1 hB.1.2 hB.2 hQ (.inr ⟨hg, rfl⟩) hS h
theorem wpAnyH_one {i : Nat} {o : Oper} {fuel : Nat} {listed : Array Bool} {a : Act} {w : World} (hr : Region.ready md ops listed = [i]) (ho : ops[i]? = some o) (hw : Region.wanted o (yielded ops a.tmps) = true)
    (h : ∀ K' : Act → World → Prop, Shut (∀ a w, S w → wpAnyH P md ops Q S fuel (listed.setIfInBounds i true) a w → K' a w) → Oper.wp P o a w K' Q) :
    wpAnyH P md ops Q S (fuel + 1) listed a w :=
  ⟨fun h0 => absurd (hr ▸ h0) (by simp), fun j hj => by
    rw [hr] at hj
    obtain rfl : j = i := by simpa using hj
    exact wpOp_step ho (fun K' hK => by rw [if_pos hw]; exact h K' (fun a w hS hW => hK a w ⟨hS, hW⟩))⟩
theorem wpAnyH_end {listed : Array Bool} {a : Act} {w : World} (hr : Region.ready md ops listed = []) (h : Q .normal a w) : ∀ fuel, wpAnyH P md ops Q S fuel listed a w
  | 0 => ⟨hr, h⟩
  | _ + 1 => ⟨fun _ => h, by rw [hr]; simp⟩
theorem wp_region_H {id : Nat} {a : Act} {w : World} (hm : P.follows .mixedOrders = true)
    (h : ∀ z, Below w.heap.size w z → z.heap.size = w.heap.size → wpAnyH P .any ops Q (fun z => Below w.heap.size w z) ops.size (Array.replicate ops.size false) a z) : (Code.region id ops true).wp P Q a w :=
  wp_region_any hm (wpAny_of_held _ _ _ _ (h w.drew (Below.refl _ _).drew rfl))
end
/-! ### when a range is one -/
theorem ok_iff {a b : Bd} (ha : a.Tri) (hb : b.Tri) : ok (a.ed, b.ed) ↔ ¬ 0 < a.i ∧ ¬ b.i < 0 ∧ ¬ 0 < cmpB a b := by
  have e : 0 < cmpB a b ↔ (a.i = 0 ∧ b.i = 0 ∧ b.z < a.z) ∨ (¬ (a.i = 0 ∧ b.i = 0) ∧ b.i < a.i) := by
    unfold cmpB
    split
    · rename_i h
      have : 0 < cmpZ a.z b.z ↔ b.z < a.z := by unfold cmpZ; split <;> (try split) <;> omega
      rw [this]
      constructor
      · intro k; exact .inl ⟨h.1, h.2, k⟩
      · rintro (k | k)
        · exact k.2.2
        · exact absurd h k.1
    · rename_i h
      constructor
      · intro k; exact .inr ⟨h, by omega⟩
      · rintro (k | k)
        · exact absurd ⟨k.1, k.2.1⟩ h
        · omega
  rw [e]
  unfold ok inR
  rcases ha with h | h | h <;> rcases hb with k | k | k
  all_goals
    first | rw [Bd.ed_lo (b := a) (by omega)] | rw [Bd.ed_zero (b := a) h] | rw [Bd.ed_hi (b := a) (by omega)]
    first | rw [Bd.ed_lo (b := b) (by omega)] | rw [Bd.ed_zero (b := b) k] | rw [Bd.ed_hi (b := b) (by omega)]
    simp [lob, hib, h, k]
  · exact ⟨b.z, Int.le_refl _⟩
  · constructor
    · rintro ⟨z, h1, h2⟩; omega
    · intro h1; exact ⟨a.z, Int.le_refl _, h1⟩
  · exact ⟨a.z, Int.le_refl _⟩
/-! ### stores into a row -/
theorem own_set {w : World} {t : TypeId} {B g n c s : Nat} {xs : List Value} (h : w.ownsRow B t s (.slice (some ⟨g, 0, none⟩) n c) n xs) (j : Nat) (u : Value) : (w.setCell ⟨g, j, none⟩ u).ownsRow B t s (.slice (some ⟨g, 0, none⟩) n c) n (xs.set j u) := by
  rcases h.2 with ⟨h1, _⟩ | ⟨g', cap, cur, h1, h2, h3, h4, h5, h6, h7⟩
  · cases h1
  · injection h1 with a b cc
    injection a with a
    injection a with a
    subst a; subst cc
    refine ⟨by simpa using h.1, .inr ⟨g, c, cur.setIfInBounds j u, rfl, h2, ?_, h4, h5, by simpa using h6, ?_⟩⟩
    · simp [World.setCell, Array.getElem?_modify, h3]
    · rw [← h7, Array.toList_setIfInBounds, List.take_set]
theorem fl6_set {ps : List Rg} {i : Nat} {p : Rg} (q : Rg) (hi : ps[i]? = some p) :
    fl6 (ps.set i q) = ((((((fl6 ps).set (i * 6) (.int .i64 q.1.i)).set (i * 6 + 1) (.bool q.1.g)).set (i * 6 + 2) (.slice q.1.A q.1.n q.1.c)).set (i * 6 + 3) (.int .i64 q.2.i)).set (i * 6 + 4) (.bool q.2.g)).set (i * 6 + 5) (.slice q.2.A q.2.n q.2.c) := by
  apply List.ext_getElem?
  intro t
  have hlen := fl6_length ps
  have hil : i < ps.length := (List.getElem?_eq_some_iff.1 hi).1
  by_cases ht : t < ps.length * 6
  · have hq : t / 6 < ps.length := by omega
    have hm : t % 6 < 6 := Nat.mod_lt _ (by omega)
    have e : t / 6 * 6 + t % 6 = t := by omega
    by_cases h : t / 6 = i
    · have h1 := fl6_get (ps := ps.set i q) (i := i) (j := t % 6) (p := q) (by simp [hil]) hm
      rw [← h, e] at h1
      rw [h] at h1
      rw [h1]
      have h6 : t = i * 6 ∨ t = i * 6 + 1 ∨ t = i * 6 + 2 ∨ t = i * 6 + 3 ∨ t = i * 6 + 4 ∨ t = i * 6 + 5 := by omega
      rcases h6 with rfl | rfl | rfl | rfl | rfl | rfl
      all_goals
        simp only [List.getElem?_set, List.length_set, hlen]
        simp [cells6, Bd.vals, Nat.mul_add_mod, hil]
        try omega
    · have h1 := fl6_get (ps := ps.set i q) (i := t / 6) (j := t % 6) (p := ps[t / 6]) (by rw [List.getElem?_set_ne (Ne.symm h)]; simp [hq]) hm
      have h2 := fl6_get (ps := ps) (i := t / 6) (j := t % 6) (p := ps[t / 6]) (by simp [hq]) hm
      rw [e] at h1 h2
      rw [h1, ← h2]
      have n0 : i * 6 ≠ t := by omega
      have n1 : i * 6 + 1 ≠ t := by omega
      have n2 : i * 6 + 2 ≠ t := by omega
      have n3 : i * 6 + 3 ≠ t := by omega
      have n4 : i * 6 + 4 ≠ t := by omega
      have n5 : i * 6 + 5 ≠ t := by omega
      rw [List.getElem?_set_ne n5, List.getElem?_set_ne n4, List.getElem?_set_ne n3, List.getElem?_set_ne n2, List.getElem?_set_ne n1, List.getElem?_set_ne n0]
  · rw [List.getElem?_eq_none (by rw [fl6_length, List.length_set]; omega), List.getElem?_eq_none (by simp only [List.length_set]; omega)]
section
variable {w w' : World} {B g : Nat} {P : Nat → Prop} {n c : Nat} {ps : List Rg}
theorem RRow.frozen (h : RRow w B P (some ⟨g, 0, none⟩) n c ps) (j : Nat) : w.frozen? ⟨g, j, none⟩ = false := by
  rcases h.own.2 with ⟨h1, _⟩ | ⟨g', cap, cur, h1, h2, h3, _⟩
  · cases h1
  · injection h1 with a b c
    injection a with a
    injection a with a
    subst a
    simp [World.frozen?, h3]
theorem RRow.ne (h : RRow w B P (some ⟨g, 0, none⟩) n c ps) {p : Rg} (hp : Rg.At w (fun b => P b ∧ (Value.slice (some ⟨g, 0, none⟩) n c).ownBlock ≠ some b) p) (hg : w.grownBy w' (some g)) (hP : ∀ b, P b → b < w.heap.size) : Rg.At w' (fun b => P b ∧ (Value.slice (some ⟨g, 0, none⟩) n c).ownBlock ≠ some b) p :=
  hp.keep fun b hb => ⟨hb, hg.block b (hP b hb.1) (fun e => hb.2 e.symm)⟩
/-- a whole range is stored -/
theorem RRow.put6 (h : RRow w B P (some ⟨g, 0, none⟩) n c ps) (hP : ∀ b, P b → b < w.heap.size) {i : Nat} {p : Rg} (hi : ps[i]? = some p) {q : Rg} (hq : Rg.At w (fun b => P b ∧ (Value.slice (some ⟨g, 0, none⟩) n c).ownBlock ≠ some b) q) :
    RRow ((((((w.setCell ⟨g, i * 6, none⟩ (.int .i64 q.1.i)).setCell ⟨g, i * 6 + 1, none⟩ (.bool q.1.g)).setCell ⟨g, i * 6 + 2, none⟩ (.slice q.1.A q.1.n q.1.c)).setCell ⟨g, i * 6 + 3, none⟩ (.int .i64 q.2.i)).setCell ⟨g, i * 6 + 4, none⟩ (.bool q.2.g)).setCell ⟨g, i * 6 + 5, none⟩ (.slice q.2.A q.2.n q.2.c)) B P (some ⟨g, 0, none⟩) n c (ps.set i q) ∧
    w.grownBy ((((((w.setCell ⟨g, i * 6, none⟩ (.int .i64 q.1.i)).setCell ⟨g, i * 6 + 1, none⟩ (.bool q.1.g)).setCell ⟨g, i * 6 + 2, none⟩ (.slice q.1.A q.1.n q.1.c)).setCell ⟨g, i * 6 + 3, none⟩ (.int .i64 q.2.i)).setCell ⟨g, i * 6 + 4, none⟩ (.bool q.2.g)).setCell ⟨g, i * 6 + 5, none⟩ (.slice q.2.A q.2.n q.2.c)) (some g) := by
  have hgr := gb_setCell (gb_setCell (gb_setCell (gb_setCell (gb_setCell (gb_setCell (g := g) (gb_refl w _) (i * 6) (.int .i64 q.1.i)) (i * 6 + 1) (.bool q.1.g)) (i * 6 + 2) (.slice q.1.A q.1.n q.1.c)) (i * 6 + 3) (.int .i64 q.2.i)) (i * 6 + 4) (.bool q.2.g)) (i * 6 + 5) (.slice q.2.A q.2.n q.2.c)
  refine ⟨⟨?_, fun p' hp' => ?_⟩, hgr⟩
  · rw [fl6_set q hi]
    exact own_set (own_set (own_set (own_set (own_set (own_set h.own _ _) _ _) _ _) _ _) _ _) _ _
  · refine RRow.ne h ?_ hgr hP
    rcases List.mem_or_eq_of_mem_set hp' with h1 | h1
    · exact h.kid p' h1
    · rw [h1]; exact hq
/-- an upper end is stored -/
theorem RRow.put3 (h : RRow w B P (some ⟨g, 0, none⟩) n c ps) (hP : ∀ b, P b → b < w.heap.size) {i : Nat} {p : Rg} (hi : ps[i]? = some p) {q : Bd} (hq : q.At w (fun b => P b ∧ (Value.slice (some ⟨g, 0, none⟩) n c).ownBlock ≠ some b)) :
    RRow (((w.setCell ⟨g, i * 6 + 3, none⟩ (.int .i64 q.i)).setCell ⟨g, i * 6 + 4, none⟩ (.bool q.g)).setCell ⟨g, i * 6 + 5, none⟩ (.slice q.A q.n q.c)) B P (some ⟨g, 0, none⟩) n c (ps.set i (p.1, q)) ∧
    w.grownBy (((w.setCell ⟨g, i * 6 + 3, none⟩ (.int .i64 q.i)).setCell ⟨g, i * 6 + 4, none⟩ (.bool q.g)).setCell ⟨g, i * 6 + 5, none⟩ (.slice q.A q.n q.c)) (some g) := by
  have hgr := gb_setCell (gb_setCell (gb_setCell (g := g) (gb_refl w _) (i * 6 + 3) (.int .i64 q.i)) (i * 6 + 4) (.bool q.g)) (i * 6 + 5) (.slice q.A q.n q.c)
  have hp := h.kid p (List.mem_of_getElem? hi)
  refine ⟨⟨?_, fun p' hp' => ?_⟩, hgr⟩
  · have e := fl6_set (p.1, q) hi
    have g0 := fl6_get hi (j := 0) (by omega)
    have g1 := fl6_get hi (j := 1) (by omega)
    have g2 := fl6_get hi (j := 2) (by omega)
    rw [e]
    have key : ∀ (l : List Value) (k : Nat) (v : Value), l[k]? = some v → l.set k v = l := fun l k v hk => by
      apply List.ext_getElem?
      intro t
      by_cases ht : k = t
      · subst ht; rw [List.getElem?_set_self (List.getElem?_eq_some_iff.1 hk).1, hk]
      · rw [List.getElem?_set_ne ht]
    rw [key _ (i * 6) (.int .i64 p.1.i) g0, key _ (i * 6 + 1) (.bool p.1.g) g1, key _ (i * 6 + 2) (.slice p.1.A p.1.n p.1.c) g2]
    exact own_set (own_set (own_set h.own _ _) _ _) _ _
  · refine RRow.ne h ?_ hgr hP
    rcases List.mem_or_eq_of_mem_set hp' with h1 | h1
    · exact h.kid p' h1
    · rw [h1]; exact ⟨hp.a, hq⟩
end
theorem RRow.fr {w w' : World} {B n c : Nat} {A : Option Addr} {ps : List Rg} (h : RRow w B (Fr B w) A n c ps) (hb : Below w.heap.size w w') : RRow w' B (Fr B w') A n c ps :=
  (h.keep hb (fun b hb => hb.2)).wide (fun b hb2 => ⟨hb2.1, Nat.lt_of_lt_of_le hb2.2 hb.size⟩)
/-- a range of the call's own is appended: the slice that holds it has been built -/
theorem wpList_app1R {ops : Array Oper} {rest : List Oper} {o : Oper} {a : Act} {Q : Exit → Act → World → Prop} {wr w3 : World} {B n c : Nat} {A : Option Addr} {ps : List Rg} {q : Rg}
    (hgd : o.guard = none) (s x : Operand) (ho : o.op = .call { callee := .builtin .append, args := #[s, x], argTypes := #[22, 22] })
    (hs : a.eval s = .slice A n c) (hx : a.eval x = .slice (some ⟨w3.heap.size, 0, none⟩) 1 1)
    (hrow : RRow wr B (Fr B wr) A n c ps) (hB : B ≤ wr.heap.size) (hw : Below wr.heap.size wr w3) (hf : Rg.At w3 (fun b => (B ≤ b ∧ b < w3.heap.size) ∧ (Value.slice A n c).ownBlock ≠ some b) q) (hm : n + 1 ≤ maxRg)
    (hh : ∀ A' c' w', RRow w' B (Fr B w') A' (n + 1) c' (ps ++ [q]) → Below B wr w' → wr.heap.size ≤ w'.heap.size → wpList Tryz.prog ops Q rest (a.put o.dst (.slice A' (n + 1) c')) w') :
    wpList Tryz.prog ops Q (o :: rest) a (w3.alloc (.cells (cells6 q).toArray 69)) := by
  have hb6 : Below w3.heap.size w3 (w3.alloc (.cells (cells6 q).toArray 69)) := (Below.refl _ _).alloc (Nat.le_refl _) _
  have hbw := hw.trans (hb6.mono hw.size)
  have hrow6 := RRow.fr hrow hbw
  have hnews := heap_alloc_new w3 (.cells (cells6 q).toArray 69)
  have hnw : ∀ j u, (fl6 [q])[j]? = some u → (w3.alloc (.cells (cells6 q).toArray 69)).cell? ((⟨w3.heap.size, 0, none⟩ : Addr).add j) = some u := fun j u hj => by
    rw [add_zero', cell_of_row _ w3.heap.size j _ _ (0, 0) hnews, ← hj]
    simp [fl6]
  have hkid : Rg.At (w3.alloc (.cells (cells6 q).toArray 69)) (fun b' => (B ≤ b' ∧ b' < (w3.alloc (.cells (cells6 q).toArray 69)).heap.size) ∧ (Value.slice A n c).ownBlock ≠ some b') q := hf.keep (fun b' hb => ⟨⟨⟨hb.1.1, Nat.lt_of_lt_of_le hb.1.2 hb6.size⟩, hb.2⟩, hb6.block b' hb.1.2⟩)
  generalize w3.alloc (.cells (cells6 q).toArray 69) = w6 at *
  refine wpList_append_R hgd s x ho [q] hs hrow6 (fun b hb => hb.2) ⟨w3.heap.size, 0, none⟩ 1 1 hx rfl (fun y hy => by rw [List.mem_singleton.1 hy]; exact hkid) hnw hm (by have := hbw.size; omega) ?_
  intro A' c' w' hr hb hg
  exact hh A' c' w' (hr.wide (fun b hb2 => ⟨hb2.1, Nat.lt_of_lt_of_le hb2.2 hg.size⟩)) ((hbw.mono hB).trans hb) (Nat.le_trans hbw.size hg.size)
/-- memory that came behind a row is not the row's -/
theorem RRow.apart {w w3 : World} {B n c lo : Nat} {A : Option Addr} {ps : List Rg} {P : Nat → Prop} {q : Rg} (h : RRow w B P A n c ps) (hB : B ≤ w.heap.size) (hl : w.heap.size ≤ lo) (hq : Rg.At w3 (fun x => lo ≤ x ∧ x < w3.heap.size) q) : Rg.At w3 (fun b => (B ≤ b ∧ b < w3.heap.size) ∧ (Value.slice A n c).ownBlock ≠ some b) q :=
  hq.keep fun b hb => ⟨⟨⟨by omega, hb.2⟩, by
    rcases h.block with ⟨h1, _⟩ | ⟨g1, h1, h2, h3, h4⟩
    · subst h1; simp [Value.ownBlock]
    · rw [h4]; intro e; injection e with e; omega⟩, rfl⟩
/-! ### ranges, normal and short -/
theorem digs_le_n {neg : Bool} {l : List Nat} (hd : Dig W l) : (digs W (ival neg l).natAbs).length ≤ l.length := by
  rw [ival_natAbs]; exact digs_length_le (by decide) (nv_lt hd)
theorem szE_raw {a : Bd} {w : World} {P : Nat → Prop} {K : Nat} (h : a.At w P) (hK : a.i = 0 → a.n ≤ K) : szE a.ed ≤ K := by
  unfold Bd.ed
  split
  · exact Nat.zero_le _
  · split
    · exact Nat.zero_le _
    · have h1 := digs_le_n (neg := a.g) h.lim.dig
      rw [h.lim.len] at h1
      exact Nat.le_trans h1 (hK (by omega))
def Gd (q : Rg) : Prop := (q.1.Nrm ∧ q.2.Nrm) ∧ q.1.n ≤ 33554432 ∧ q.2.n ≤ 33554432
theorem Gd.mk' {a b : Bd} {w : World} {P : Nat → Prop} (hat : Rg.At w P (a, b)) (ha : a.Nrm) (hb : b.Nrm) (h1 : szE a.ed ≤ 33554432) (h2 : szE b.ed ≤ 33554432) : Gd (a, b) :=
  ⟨⟨ha, hb⟩, by rw [ha.szE hat.a.lim.len]; exact h1, by rw [hb.szE hat.b.lim.len]; exact h2⟩
theorem RRow.cells_at {w : World} {B g n c : Nat} {P : Nat → Prop} {ps : List Rg} (h : RRow w B P (some ⟨g, 0, none⟩) n c ps) {k : Nat} {p : Rg} (hk : ps[k]? = some p) :
    w.cell? ⟨g, k * 6, none⟩ = some (.int .i64 p.1.i) ∧ w.cell? ⟨g, k * 6 + 1, none⟩ = some (.bool p.1.g) ∧ w.cell? ⟨g, k * 6 + 2, none⟩ = some (.slice p.1.A p.1.n p.1.c) ∧
    w.cell? ⟨g, k * 6 + 3, none⟩ = some (.int .i64 p.2.i) ∧ w.cell? ⟨g, k * 6 + 4, none⟩ = some (.bool p.2.g) ∧ w.cell? ⟨g, k * 6 + 5, none⟩ = some (.slice p.2.A p.2.n p.2.c) := by
  have key : ∀ j u, j < 6 → (cells6 p)[j]? = some u → w.cell? ⟨g, k * 6 + j, none⟩ = some u := fun j u hj hu => by
    have := World.ownsRow.cells h.own (g := g) rfl (k * 6 + j) u ((fl6_get hk hj).trans hu)
    rwa [add_zero'] at this
  exact ⟨key 0 _ (by omega) rfl, key 1 _ (by omega) rfl, key 2 _ (by omega) rfl, key 3 _ (by omega) rfl, key 4 _ (by omega) rfl, key 5 _ (by omega) rfl⟩
theorem RRow.some_ {w : World} {B n c : Nat} {P : Nat → Prop} {A : Option Addr} {ps : List Rg} (h : RRow w B P A n c ps) (hn : 0 < n) : ∃ g, A = some ⟨g, 0, none⟩ ∧ B ≤ g ∧ g < w.heap.size ∧ (Value.slice A n c).ownBlock = some g := by
  rcases h.block with ⟨_, h1⟩ | h1
  · omega
  · exact h1
theorem fl6_take (ps : List Rg) : ∀ k, (fl6 ps).take (k * 6) = fl6 (ps.take k) := by
  induction ps with
  | nil => intro k; simp [fl6]
  | cons p ps ih =>
    intro k
    cases k with
    | zero => simp [fl6]
    | succ k =>
      have e : fl6 (p :: ps) = cells6 p ++ fl6 ps := by simp [fl6]
      have e2 : fl6 ((p :: ps).take (k + 1)) = cells6 p ++ fl6 (ps.take k) := by simp [fl6]
      rw [e, e2, ← ih k, List.take_append]
      have hl : (cells6 p).length = 6 := rfl
      rw [hl, List.take_of_length_le (by rw [hl]; omega), show (k + 1) * 6 - 6 = k * 6 by omega]
theorem RRow.take {w : World} {B n c : Nat} {P : Nat → Prop} {A : Option Addr} {ps : List Rg} (h : RRow w B P A n c ps) {k : Nat} (hk : k ≤ n) : RRow w B P A k c (ps.take k) := by
  have hl := h.len
  refine ⟨⟨by rw [fl6_length, List.length_take]; congr 1; omega, ?_⟩, fun p hp => by
    have h1 := h.kid p (List.mem_of_mem_take hp)
    cases A <;> exact h1⟩
  rcases h.own.2 with ⟨h1, h2⟩ | ⟨g, cap, cur, h1, h2, h3, h4, h5, h6, h7⟩
  · injection h1 with a b c
    subst a; subst b; subst c
    exact .inl ⟨by rw [show k = 0 by omega], by omega⟩
  · injection h1 with a b c
    subst a; subst c
    refine .inr ⟨g, _, cur, rfl, h2, h3, by omega, h5, h6, ?_⟩
    rw [← fl6_take, ← h7, List.take_take]
    congr 1
    omega
/-! ### the merging of sorted ranges, in place -/
theorem cmpB_ge {a b : Bd} (ha : a.Tri) (hb : b.Tri) : cmpB a b ≤ 0 ↔ leE a.ed b.ed := by
  have e : 0 < cmpB a b ↔ cmpB b a < 0 := by
    unfold cmpB
    by_cases h : a.i = 0 ∧ b.i = 0
    · rw [if_pos h, if_pos ⟨h.2, h.1⟩]
      unfold cmpZ
      split <;> split <;> (try split) <;> (try split) <;> omega
    · rw [if_neg h, if_neg (fun k => h ⟨k.2, k.1⟩)]; omega
  rw [← cmpB_le ha hb, ← e]
  omega
theorem succE_sh (e : Ed) : succE e = shE 1 e := by cases e <;> rfl
structure M2 (rs cs : List Rg) (j kk : Nat) : Prop where
  kj : kk ≤ j
  len : cs.length = rs.length
  acc : (cs.take kk).map edsR = (((rs.take j).map edsR).foldl pushR []).reverse
  rest : cs.drop j = rs.drop j
theorem M2.start (rs : List Rg) : M2 rs rs 0 0 := ⟨Nat.le_refl _, rfl, by simp, rfl⟩
section
variable {rs cs : List Rg} {j kk p : Nat} {r s : Rg}
theorem M2.at_ (h : M2 rs cs j kk) (hr : rs[j]? = some r) : cs[j]? = some r := by
  have h1 : (cs.drop j)[0]? = (rs.drop j)[0]? := by rw [h.rest]
  rwa [List.getElem?_drop, List.getElem?_drop, Nat.add_zero, hr] at h1
theorem M2.fold (hr : rs[j]? = some r) : ((rs.take (j + 1)).map edsR).foldl pushR [] = pushR (((rs.take j).map edsR).foldl pushR []) (edsR r) := by
  rw [List.take_add_one, hr]
  simp
theorem M2.drop_ (h : M2 rs cs j kk) : cs.drop (j + 1) = rs.drop (j + 1) := by
  have := congrArg (List.drop 1) h.rest
  simpa [List.drop_drop, Nat.add_comm] using this
/-- the last of those that stand -/
theorem M2.last (h : M2 rs cs j (p + 1)) (hs : cs[p]? = some s) : ∃ t, ((rs.take j).map edsR).foldl pushR [] = edsR s :: t ∧ (cs.take p).map edsR = t.reverse := by
  have h1 := h.acc
  rw [List.take_add_one, hs] at h1
  simp only [Option.toList_some, List.map_append, List.map_cons, List.map_nil] at h1
  have h2 := congrArg List.reverse h1
  rw [List.reverse_reverse, List.reverse_append] at h2
  exact ⟨((cs.take p).map edsR).reverse, by rw [← h2]; rfl, by rw [List.reverse_reverse]⟩
theorem M2.keep (h : M2 rs cs j (p + 1)) (hs : cs[p]? = some s) (hr : rs[j]? = some r) (h1 : leE r.1.ed (succE s.2.ed)) (h2 : leE r.2.ed s.2.ed) : M2 rs cs (j + 1) (p + 1) := by
  obtain ⟨t, e1, e2⟩ := h.last hs
  refine ⟨Nat.le_succ_of_le h.kj, h.len, ?_, h.drop_⟩
  rw [M2.fold hr, h.acc, e1]
  show _ = (pushR (edsR s :: t) (edsR r)).reverse
  rw [pushR, if_pos (show leE (edsR r).1 (succE (edsR s).2) from h1), if_pos (show leE (edsR r).2 (edsR s).2 from h2)]
theorem M2.wide (h : M2 rs cs j (p + 1)) (hs : cs[p]? = some s) (hr : rs[j]? = some r) (h1 : leE r.1.ed (succE s.2.ed)) (h2 : ¬ leE r.2.ed s.2.ed) : M2 rs (cs.set p (s.1, r.2)) (j + 1) (p + 1) := by
  obtain ⟨t, e1, e2⟩ := h.last hs
  have hp : p < cs.length := (List.getElem?_eq_some_iff.1 hs).1
  refine ⟨Nat.le_succ_of_le h.kj, by rw [List.length_set]; exact h.len, ?_, ?_⟩
  · rw [M2.fold hr, e1, pushR, if_pos (show leE (edsR r).1 (succE (edsR s).2) from h1), if_neg (show ¬ leE (edsR r).2 (edsR s).2 from h2)]
    rw [List.take_add_one, List.take_set_of_le (Nat.le_refl _), List.getElem?_set_self hp]
    simp only [Option.toList_some, List.map_append, List.map_cons, List.map_nil, e2, List.reverse_cons]
    rfl
  · rw [List.drop_set_of_lt (by have := h.kj; omega)]; exact h.drop_
theorem M2.push (h : M2 rs cs j kk) (hr : rs[j]? = some r) (h0 : ∀ p s, kk = p + 1 → cs[p]? = some s → ¬ leE r.1.ed (succE s.2.ed)) : M2 rs (cs.set kk r) (j + 1) (kk + 1) := by
  have hj : j < rs.length := (List.getElem?_eq_some_iff.1 hr).1
  have hk : kk < cs.length := by have := h.kj; have := h.len; omega
  refine ⟨Nat.succ_le_succ h.kj, by rw [List.length_set]; exact h.len, ?_, ?_⟩
  · rw [M2.fold hr, List.take_add_one, List.take_set_of_le (Nat.le_refl _), List.getElem?_set_self hk]
    simp only [Option.toList_some, List.map_append, List.map_cons, List.map_nil]
    cases kk with
    | zero =>
      have h1 := h.acc
      simp only [List.take_zero, List.map_nil] at h1
      have h2 := congrArg List.reverse h1
      rw [List.reverse_reverse] at h2
      rw [← h2]
      rfl
    | succ p =>
      obtain ⟨s, hs⟩ : ∃ s, cs[p]? = some s := ⟨cs[p]'(by omega), by simp⟩
      obtain ⟨t, e1, e2⟩ := h.last hs
      rw [e1, pushR, if_neg (show ¬ leE (edsR r).1 (succE (edsR s).2) from h0 p s rfl hs), h.acc, e1]
      simp
  · rw [List.drop_set_of_lt (by have := h.kj; omega)]; exact h.drop_
theorem M2.done (h : M2 rs cs j kk) (hj : j = rs.length) : (cs.take kk).map edsR = normalP (rs.map edsR) := by
  rw [h.acc, hj, List.take_length]; rfl
end
theorem push_ends {L : List R} : ∀ {l acc : List R}, (∀ r ∈ acc, (∃ s ∈ L, s.1 = r.1) ∧ ∃ s ∈ L, s.2 = r.2) → (∀ r ∈ l, r ∈ L) → ∀ r ∈ l.foldl pushR acc, (∃ s ∈ L, s.1 = r.1) ∧ ∃ s ∈ L, s.2 = r.2
  | [], acc, h, _ => h
  | x :: l, acc, h, hl => by
    rw [List.foldl_cons]
    refine push_ends (fun r hr => ?_) (fun r hr => hl r (List.mem_cons_of_mem _ hr))
    have hx := hl x List.mem_cons_self
    cases acc with
    | nil => rw [pushR, List.mem_singleton] at hr; subst hr; exact ⟨⟨_, hx, rfl⟩, _, hx, rfl⟩
    | cons s acc =>
      rw [pushR] at hr
      split at hr
      · split at hr
        · exact h r hr
        · rcases List.mem_cons.1 hr with h1 | h1
          · subst h1; exact ⟨(h s List.mem_cons_self).1, _, hx, rfl⟩
          · exact h r (List.mem_cons_of_mem _ h1)
      · rcases List.mem_cons.1 hr with h1 | h1
        · subst h1; exact ⟨⟨_, hx, rfl⟩, _, hx, rfl⟩
        · exact h r h1
/-- what the program makes of the sorted ranges -/
theorem norm_of {L rs : List R} (h : ∀ r, r ∈ rs ↔ r ∈ L ∧ ok r) (hp : rs.Pairwise fun a b => leE a.1 b.1) : NF (normalP rs) ∧ (∀ z, Hf.mem z (normalP rs) ↔ Hf.mem z L) ∧ ∀ r ∈ normalP rs, (∃ s ∈ L, s.1 = r.1) ∧ ∃ s ∈ L, s.2 = r.2 := by
  obtain ⟨h1, h2⟩ := normalP_NF (l := rs) (fun r hr => ((h r).1 hr).2) hp
  refine ⟨h1, fun z => ?_, fun r hr => ?_⟩
  · rw [h2 z]
    constructor
    · rintro ⟨r, hr, hz⟩; exact ⟨r, ((h r).1 hr).1, hz⟩
    · rintro ⟨r, hr, hz⟩; exact ⟨r, (h r).2 ⟨hr, z, hz⟩, hz⟩
  · exact push_ends (acc := []) (fun r hr => by cases hr) (fun r hr => ((h r).1 hr).1) r (List.mem_reverse.1 hr)
end Go.Proofs.YtpikjceodmepiaaGreatDoor

