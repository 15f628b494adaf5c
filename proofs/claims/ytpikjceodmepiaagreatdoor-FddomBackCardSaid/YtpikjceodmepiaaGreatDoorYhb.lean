import Derived.Test.YtpikjceodmepiaaGreatDoorYgb
import Derived.Shelf.GgSortFunc.InsertionK
import Derived.Shelf.SlSortCmp.NoneTotal
import Derived.Sort.OwnSorted
import Derived.Test.YtpikjceodmepiaaGreatDoorMathb
import Derived.Test.YtpikjceodmepiaaGreatDoorYfb
set_option linter.unusedVariables false
set_option linter.unusedSimpArgs false
namespace Go.Proofs.YtpikjceodmepiaaGreatDoor
open Go.RowKit Hb Hf Go.Shelf Go.Sort
set_option linter.unusedVariables false
set_option linter.unusedSimpArgs false
attribute [local go_sem ↓] Go.wp_at_zero Go.wp_at_succ
/-! ### the sort of ranges by their lower ends -/
theorem cmpZ_neg {a b : Int} : cmpZ a b < 0 ↔ a < b := by unfold cmpZ; split <;> (try split) <;> omega
theorem cmpB_neg {a b : Bd} : cmpB a b < 0 ↔ (a.i = 0 ∧ b.i = 0 ∧ a.z < b.z) ∨ (¬ (a.i = 0 ∧ b.i = 0) ∧ a.i < b.i) := by
  unfold cmpB
  split
  · rename_i h; rw [cmpZ_neg]; constructor
    · intro k; exact .inl ⟨h.1, h.2, k⟩
    · rintro (k | k)
      · exact k.2.2
      · exact absurd h k.1
  · rename_i h; constructor
    · intro k; exact .inr ⟨h, by omega⟩
    · rintro (k | k)
      · exact absurd ⟨k.1, k.2.1⟩ h
      · omega
/-- by ends: one is not below another -/
theorem cmpB_le {a b : Bd} (ha : a.Tri) (hb : b.Tri) : ¬ cmpB b a < 0 ↔ leE a.ed b.ed := by
  rw [cmpB_neg]
  rcases ha with h | h | h <;> rcases hb with k | k | k
  all_goals
    first | rw [Bd.ed_lo (b := a) (by omega)] | rw [Bd.ed_zero (b := a) h] | rw [Bd.ed_hi (b := a) (by omega)]
    first | rw [Bd.ed_lo (b := b) (by omega)] | rw [Bd.ed_zero (b := b) k] | rw [Bd.ed_hi (b := b) (by omega)]
    simp [leE, h, k]
set_option maxHeartbeats 1000000 in
theorem closure_any {x y : Rg} {P : Nat → Prop} {w : World} (hx : Rg.At w P x) (hy : Rg.At w P y) (hP : ∀ b, P b → b < w.heap.size) (tx : x.1.Tri) (ty : y.1.Tri) :
    Calls Tryz.prog 103 #[rgV x, rgV y] w fun e w' => e = .returned (.int .i64 (cmpB x.1 y.1)) ∧ Gr w w' := by
  have HG := Lib.hid (((Gr.refl w).alloc (.cells (cells6 x).toArray 69)).alloc (.cells (cells6 y).toArray 69))
  have HC := Lib.hid (fun w1 (h1 : Gr w w1) => fcmp_any (hx.a.keep (Q := P) (fun b hb => ⟨hb, h1.bel.block b (hP b hb)⟩)) (hy.a.keep (Q := P) (fun b hb => ⟨hb, h1.bel.block b (hP b hb)⟩)) (fun b hb => Nat.lt_of_lt_of_le (hP b hb) h1.bel.size) tx ty)
  have e1 := RBox.new w x
  have e2 := RBox.new (w.alloc (.cells (cells6 x).toArray 69)) y
  have e3 := (RBox.below e1 (w' := (w.alloc (.cells (cells6 x).toArray 69)).alloc (.cells (cells6 y).toArray 69)) ((Below.refl _ _).alloc (Nat.le_refl _) _))
  rw [World.size_alloc] at e2
  obtain ⟨⟨xi, xg, xA, xn, xc, xl⟩, ⟨xi', xg', xA', xn', xc', xl'⟩⟩ := x
  obtain ⟨⟨yi, yg, yA, yn, yc, yl⟩, ⟨yi', yg', yA', yn', yc', yl'⟩⟩ := y
  obtain ⟨x0, x1, x2, _, _, _⟩ := e3.cells
  obtain ⟨y0, y1, y2, _, _, _⟩ := e2.cells
  generalize hZ : cmpB ⟨xi, xg, xA, xn, xc, xl⟩ ⟨yi, yg, yA, yn, yc, yl⟩ = Z at *
  simp only [rgV, cells6_eq, Bd.v, Bd.vals, List.append, List.cons_append, List.nil_append, cells6] at *
  clear hx hy hP e1 e2 e3 tx ty
  go_enter Tryz.func103, Tryz.ntmps103
  go_wp2_with (go_at_call 38; (with_reducible refine (HC.out _ HG.out).mono ?_); rintro e w1 ⟨rfl, hg1⟩)
  go_ret
  exact ⟨rfl, HG.out.trans hg1⟩
def GoodR (w : World) (P : Nat → Prop) (p : Rg) : Prop := Rg.At w P p ∧ p.1.Tri
theorem good0 (w : World) (P : Nat → Prop) : GoodR w P (ib 0, ib 0) := ⟨⟨ib_at w P (.inr (.inl rfl)), ib_at w P (.inr (.inl rfl))⟩, .inr (.inl rfl)⟩
abbrev GR (w : World) (P : Nat → Prop) := {p : Rg // GoodR w P p}
instance instGR (w : World) (P : Nat → Prop) : Inhabited (GR w P) := ⟨⟨(ib 0, ib 0), good0 w P⟩⟩
def encR {w : World} {P : Nat → Prop} (x : GR w P) : List Value := cells6 x.1
def cfR {w : World} {P : Nat → Prop} (x y : GR w P) : Int := cmpB x.1.1 y.1.1
theorem swoR (w : World) (P : Nat → Prop) : SWO (ltOf (cfR (w := w) (P := P))) := by
  refine ⟨fun x => ?_, fun x y z => ?_, fun x y z => ?_⟩
  all_goals
    simp only [ltOf, cfR, decide_eq_true_eq, decide_eq_false_iff_not, cmpB_neg]
    omega
theorem flatK_encR {w : World} {P : Nat → Prop} (xs : List (GR w P)) : flatK encR 6 xs.toArray = (fl6 (xs.map (·.1))).toArray := by
  apply Array.ext
  · simp [fl6_length]
  · intro t h1 h2
    have ht : t < xs.length * 6 := by simpa using h1
    have hq : t / 6 < xs.length := by omega
    have hg := get_flatK encR 6 xs.toArray t (by simpa using ht)
    rw [getElem!_pos _ t h1] at hg
    rw [hg]
    have hm : t % 6 < 6 := Nat.mod_lt _ (by omega)
    have h3 := fl6_get (ps := xs.map (·.1)) (i := t / 6) (j := t % 6) (p := (xs[t / 6]).1) (by simp [hq]) hm
    have e : t / 6 * 6 + t % 6 = t := by omega
    rw [e] at h3
    have hl : (encR (xs.toArray[t / 6]!)).length = 6 := rfl
    rw [getElem!_pos _ (t % 6) (by omega)]
    simp only [List.getElem_toArray]
    rw [List.getElem?_eq_getElem (by rw [fl6_length]; simpa using ht), List.getElem?_eq_getElem hm] at h3
    have h4 := Option.some.inj h3
    rw [h4]
    congr 1
    have : xs.toArray[t / 6]! = xs[t / 6] := by simp [hq]
    rw [this]
    rfl
theorem heap_sortR {α : Type} [Inhabited α] {enc : α → List Value} {k : Nat} {w : World} {g n : Nat} {os : Array Obj} {cur : Array Value} {e : TypeId} {fr : Nat × Nat} (d : Array α) (hb : w.heap[g]? = some (.cells cur e fr)) :
    (sortWorldK enc k w g 0 n d os).heap[g]? = some (.cells (putCells id 0 (flatK enc k d) cur) e fr) := by
  have hg : g < w.heap.size := (Array.getElem?_eq_some_iff.1 hb).1
  unfold sortWorldK putRowK
  rw [heap_grow_old _ _ (by simpa using hg)]
  simp [putRow, mapBlock, Sort.ahead, Array.getElem?_modify, hb, onCells]
theorem grown_sortR {α : Type} [Inhabited α] {enc : α → List Value} {k : Nat} {w : World} {g n : Nat} {os : Array Obj} (d : Array α) : w.grownBy (sortWorldK enc k w g 0 n d os) (some g) := by
  refine ⟨rfl, rfl, rfl, by simp [sortWorldK, putRowK], fun j hj hne => ?_⟩
  unfold sortWorldK putRowK
  rw [heap_grow_old _ _ (by simpa using hj)]
  have : g ≠ j := fun e => hne (by rw [e])
  simp [putRow, mapBlock, Sort.ahead, Array.getElem?_modify, this]
theorem take_put (cur : Array Value) (vs : List Value) (h : vs.length ≤ cur.size) : (putCells id 0 vs.toArray cur).toList.take vs.length = vs := by
  apply List.ext_getElem?
  intro j
  by_cases hj : j < vs.length
  · rw [List.getElem?_take_of_lt hj, Array.getElem?_toList]
    simp [putCells, hj, show j < cur.size by omega]
  · rw [List.getElem?_take_eq_none (by omega), List.getElem?_eq_none (by omega)]
theorem extract_all {α : Type} (d : Array α) : d.extract 0 d.size = d := by simp
set_option maxRecDepth 100000 in
theorem sort_any {w : World} {B : Nat} {P : Nat → Prop} {A : Option Addr} {n c : Nat} {ps : List Rg} (h : RRow w B P A n c ps) (hP : ∀ b, P b → b < w.heap.size) (ht : ∀ p ∈ ps, p.1.Tri) (hB : B ≤ w.heap.size) (hn : n < 4611686018427387904) :
    Calls Tryz.prog 102 #[.slice A n c, .func (.func 103) #[] #[]] w fun e w' => e = .returned (.tuple #[]) ∧
      ∃ qs, qs.Perm ps ∧ qs.Pairwise (fun p q => leE p.1.ed q.1.ed) ∧ RRow w' B P A n c qs ∧ Below B w w' := by
  by_cases h0 : n = 0
  · subst h0
    have hl := h.len
    obtain rfl : ps = [] := List.length_eq_zero_iff.1 hl
    exact (AnyF.slices_SortFunc_none Tryz.sortR A c _ w).mono fun e w' ⟨he, hw⟩ => ⟨he, [], List.Perm.refl _, List.Pairwise.nil, by rw [hw]; exact h, by rw [hw]; exact Below.refl _ _⟩
  · obtain ⟨g, rfl, hBg, hg, hob⟩ : ∃ g, A = some ⟨g, 0, none⟩ ∧ B ≤ g ∧ g < w.heap.size ∧ (Value.slice A n c).ownBlock = some g := by
      rcases h.block with ⟨_, h1⟩ | h1
      · exact absurd h1 h0
      · exact h1
    obtain ⟨P', hP'⟩ : ∃ P' : Nat → Prop, P' = fun b => P b ∧ (Value.slice (some ⟨g, 0, none⟩) n c).ownBlock ≠ some b := ⟨_, rfl⟩
    have hPg : ∀ b, P' b → b < w.heap.size ∧ b ≠ g := fun b hb => by
      subst hP'
      exact ⟨hP b hb.1, fun e => hb.2 (by rw [hob, e])⟩
    have hk : ∀ p ∈ ps, GoodR w P' p := fun p hp => ⟨by rw [hP']; exact h.kid p hp, ht p hp⟩
    obtain ⟨xs, hxs⟩ : ∃ xs : List (GR w P'), xs.map (·.1) = ps := ⟨ps.attach.map fun p => ⟨p.1, hk p.1 p.2⟩, by simp [List.map_attach_eq_pmap]⟩
    have hlen : xs.length = n := by rw [← h.len, ← hxs]; simp
    obtain ⟨cur, hcur, hcap, hmax, hsz, htk⟩ : ∃ cur, w.heap[g]? = some (.cells cur 69 (0, 0)) ∧ n ≤ c ∧ c ≤ maxLen ∧ cur.size = c * 6 ∧ cur.toList.take (n * 6) = fl6 ps := by
      rcases h.own.2 with ⟨h1, _⟩ | ⟨g', cap, cur, h1, h2, h3, h4, h5, h6, h7⟩
      · cases h1
      · injection h1 with a b cc
        injection a with a
        injection a with a
        subst a; subst cc
        exact ⟨cur, h3, h4, h5, h6, h7⟩
    have hH : HoldsK encR 6 w g 0 xs.toArray := by
      unfold HoldsK
      rw [flatK_encR, hxs]
      intro j hj
      have hj' : j < (fl6 ps).length := by simpa using hj
      refine ⟨?_, by simp [World.frozen?, hcur]⟩
      have h2 := World.ownsRow.cells h.own (g := g) rfl j _ (List.getElem?_eq_getElem hj')
      rw [add_zero'] at h2
      rw [Nat.zero_add, h2, getElem!_pos _ j (by simpa using hj)]
      simp
    have hcmp : CmpLays Tryz.prog 103 #[] encR 6 (cfR (w := w) (P := P')) g 0 xs.toArray.size w := fun m os dk hd x y => by
      have hgr := grown_sortR (enc := encR) (k := 6) (w := w) (g := g) (n := m) (os := os) dk
      have hkp : ∀ b, P' b → P' b ∧ (sortWorldK encR 6 w g 0 m dk os).heap[b]? = w.heap[b]? := fun b hb => ⟨hb, hgr.block b (hPg b hb).1 (fun e => by injection e with e; exact (hPg b hb).2 e)⟩
      exact (closure_any (x := x.1) (y := y.1) (P := P') (x.2.1.keep hkp) (y.2.1.keep hkp) (fun b hb => Nat.lt_of_lt_of_le (hPg b hb).1 hgr.size) x.2.2 y.2.2).mono fun e w' ⟨he, hg2⟩ => ⟨he, hg2.lies⟩
    have hcon := AnyQ.slices_SortFunc Tryz.sortR 6 Tryz.isAgg69 Tryz.sizeOf69 encR (fun _ => rfl) (fun x v hv => fl6_one [x.1] v (by simpa [fl6] using (show v ∈ cells6 x.1 from hv))) cfR (swoR w P') 103 #[] g 0 c xs.toArray w
      (enters_of Tryz.func103 (by kernel_rfl) rfl) hcmp hH hg (by simpa [hlen] using hn)
    have hsz2 : xs.toArray.size = n := by simpa using hlen
    rw [hsz2] at hcon
    refine hcon.mono fun e w' ⟨he, d', m, os, hp, hs, hw⟩ => ⟨he, d'.toList.map (·.1), ?_, ?_, ?_, ?_⟩
    · obtain ⟨h1, _, h3⟩ := hp
      have e1 : d'.extract 0 n = d' := by rw [← hsz2, ← h1]; exact extract_all d'
      have e2 : xs.toArray.extract 0 n = xs.toArray := by rw [← hsz2]; exact extract_all _
      rw [e1, e2] at h3
      have := h3.map (fun x : GR w P' => x.1)
      rw [← hxs]
      simpa using this
    · have h1 : d'.size = n := by rw [hp.1, hsz2]
      rw [List.pairwise_map]
      rw [List.pairwise_iff_getElem]
      intro i j hi hj hij
      have hj' : j < d'.size := by simpa using hj
      have hi' : i < d'.size := by simpa using hi
      have h3 := hs i j (Nat.zero_le _) hij (by omega)
      rw [getElem!_pos d' j hj', getElem!_pos d' i hi'] at h3
      have h4 := of_decide_eq_false h3
      have h5 := (cmpB_le (d'[i]).2.2 (d'[j]).2.2).1 h4
      simpa using h5
    · have hgr := grown_sortR (enc := encR) (k := 6) (w := w) (g := g) (n := m) (os := os) d'
      have hd : d'.size = n := by rw [hp.1, hsz2]
      refine ⟨⟨by rw [fl6_length, List.length_map, Array.length_toList, hd], .inr ⟨g, c, _, rfl, hBg, by rw [hw]; exact heap_sortR d' hcur, hcap, hmax, by simp [putCells, hsz], ?_⟩⟩, fun p hp2 => ?_⟩
      · have e := flatK_encR d'.toList
        rw [Array.toArray_toList] at e
        rw [e]
        have hl : (fl6 (d'.toList.map (·.1))).length = n * 6 := by rw [fl6_length, List.length_map, Array.length_toList, hd]
        rw [← hl]
        exact take_put cur _ (by rw [hl, hsz]; omega)
      · obtain ⟨x, hx, rfl⟩ := List.mem_map.1 hp2
        have := x.2.1
        rw [hw]
        refine this.keep fun b hb => ⟨by subst hP'; exact hb, hgr.block b (hPg b hb).1 (fun e => by injection e with e; exact (hPg b hb).2 e)⟩
    · have hgr := grown_sortR (enc := encR) (k := 6) (w := w) (g := g) (n := m) (os := os) d'
      rw [hw]
      exact ⟨hgr.os, hgr.tape, hgr.output, hgr.size, fun j hj => hgr.block j (by omega) (fun e => by injection e with e; omega)⟩
end Go.Proofs.YtpikjceodmepiaaGreatDoor

