import Derived.Test.YtggdmhkdmkldoaaCw
namespace Go.Proofs.Ytggdmhkdmkldoaa
open Go.RowKit Hb

/-! ### what a law holds: variables of two cells, slices of its own; each in a block of its own -/
inductive Th where
  | var (t : TypeId) (g : Nat) (x y : Value)
  | own (t : TypeId) (A : Option Addr) (n c : Nat) (xs : List Value)
def Th.blk : Th → Option Nat
  | .var _ g _ _ => some g
  | .own _ A _ _ _ => A.map Addr.block
def Th.ok (B : Nat) (w : World) : Th → Prop
  | .var t g x y => w.heap[g]? = some (.cells #[x, y] t (0, 0))
  | .own t A n c xs => Own t w B A n c xs
def Ev (w0 w : World) (ts : List Th) : Prop :=
  Below w0.heap.size w0 w ∧ (∀ t ∈ ts, t.ok w0.heap.size w ∧ ∀ b, t.blk = some b → w0.heap.size ≤ b ∧ b < w.heap.size) ∧ ts.Pairwise (fun s t => ∀ b, s.blk = some b → t.blk ≠ some b)
section
variable {w0 w w' : World} {ts us vs : List Th} {s : Th}
theorem Th.keep {B : Nat} {t : Th} (h : t.ok B w) (he : ∀ b, t.blk = some b → w'.heap[b]? = w.heap[b]?) : t.ok B w' := by
  cases t with
  | var t g x y => exact (he g rfl).trans h
  | own t A n c xs =>
    rcases Own.form h with ⟨h1, h2, h3⟩ | ⟨g, h1, _⟩
    · refine ⟨h.1, ?_⟩
      rcases h.2 with h4 | ⟨g, cap, cur, h5, _⟩
      · exact .inl h4
      · rw [h1] at h5; cases h5
    · subst h1
      exact Own.same h (he g rfl)
theorem Ev.b (h : Ev w0 w ts) : Below w0.heap.size w0 w := h.1
theorem Ev.nil (w : World) : Ev w w [] := ⟨Below.refl _ _, fun v hv => (by cases hv), List.Pairwise.nil⟩
theorem Ev.below (h : Ev w0 w ts) (hb : Below w.heap.size w w') : Ev w0 w' ts :=
  ⟨h.1.trans (hb.mono h.1.size), fun t ht => ⟨Th.keep (h.2.1 t ht).1 fun b hbk => hb.block b ((h.2.1 t ht).2 b hbk).2, fun b hbk => ⟨((h.2.1 t ht).2 b hbk).1, Nat.lt_of_lt_of_le ((h.2.1 t ht).2 b hbk).2 hb.size⟩⟩, h.2.2⟩
theorem Ev.add (h : Ev w0 w ts) (hb : Below w.heap.size w w') {t : Th} (hok : t.ok w0.heap.size w') (hk : ∀ b, t.blk = some b → w.heap.size ≤ b ∧ b < w'.heap.size) : Ev w0 w' (t :: ts) := by
  have h2 := h.below hb
  refine ⟨h2.1, fun u hu => ?_, List.Pairwise.cons (fun u hu b e1 e2 => ?_) h.2.2⟩
  · rcases List.mem_cons.1 hu with rfl | hu
    · exact ⟨hok, fun b e => ⟨Nat.le_trans h.1.size (hk b e).1, (hk b e).2⟩⟩
    · exact h2.2.1 u hu
  · have h3 := (hk b e1).1
    have h4 := ((h.2.1 u hu).2 b e2).2
    omega
theorem Ev.own (h : Ev w0 w ts) (hb : Below w.heap.size w w') {t : TypeId} {A : Option Addr} {n c : Nat} {xs : List Value} (ho : Own t w' w.heap.size A n c xs) : Ev w0 w' (.own t A n c xs :: ts) := by
  refine h.add hb (Own.mono ho h.1.size) fun b e => ?_
  rcases Own.form ho with ⟨h1, _⟩ | ⟨g, h1, h2, h3⟩
  · rw [Th.blk, h1] at e; cases e
  · rw [Th.blk, h1] at e; cases e; exact ⟨h2, h3⟩
theorem Ev.var (h : Ev w0 w ts) (t : TypeId) (x y : Value) : Ev w0 (w.alloc (.cells #[x, y] t)) (.var t w.heap.size x y :: ts) :=
  h.add ((Below.refl _ _).alloc (Nat.le_refl _) _) (heap_alloc_new w _) fun b e => by cases e; exact ⟨Nat.le_refl _, by simp⟩
theorem Ev.keeps (h : Ev w0 w (us ++ s :: vs)) (hg : w.grownBy w' s.blk) : Below w0.heap.size w0 w' := by
  refine Below.grown h.1 hg h.1.size fun k e => ?_
  exact ((h.2.1 s (by simp)).2 k e).1
theorem Ev.other (h : Ev w0 w (us ++ s :: vs)) (hg : w.grownBy w' s.blk) {t : Th} (ht : t ∈ us ++ vs) : t.ok w0.heap.size w' ∧ ∀ b, t.blk = some b → w0.heap.size ≤ b ∧ b < w'.heap.size := by
  have hm : t ∈ us ++ s :: vs := by
    rcases List.mem_append.1 ht with h1 | h1
    · simp [h1]
    · simp [h1]
  obtain ⟨h1, h2⟩ := h.2.1 t hm
  refine ⟨Th.keep h1 fun b e => hg.block b (h2 b e).2 fun e2 => ?_, fun b e => ⟨(h2 b e).1, Nat.lt_of_lt_of_le (h2 b e).2 hg.size⟩⟩
  have hp := List.pairwise_append.1 h.2.2
  rcases List.mem_append.1 ht with h3 | h3
  · exact hp.2.2 t h3 s (by simp) b e e2.symm
  · exact (List.pairwise_cons.1 hp.2.1).1 t h3 b e2.symm e
/-- one of them is written over, and left -/
theorem Ev.spend (us : List Th) (s : Th) (vs : List Th) (h : Ev w0 w (us ++ s :: vs)) (hg : w.grownBy w' s.blk) : Ev w0 w' (us ++ vs) :=
  ⟨h.keeps hg, fun t ht => h.other hg ht, by
    have hp := List.pairwise_append.1 h.2.2
    exact List.pairwise_append.2 ⟨hp.1, (List.pairwise_cons.1 hp.2.1).2, fun a ha b hb => hp.2.2 a ha b (by simp [hb])⟩⟩
/-- one of them is written, and stays -/
theorem Ev.change (us : List Th) (s : Th) (vs : List Th) (h : Ev w0 w (us ++ s :: vs)) (hg : w.grownBy w' s.blk) {t : Th} (hb : t.blk = s.blk) (hok : t.ok w0.heap.size w') : Ev w0 w' (us ++ t :: vs) := by
  refine ⟨h.keeps hg, fun u hu => ?_, ?_⟩
  · rcases List.mem_append.1 hu with h1 | h1
    · exact h.other hg (by simp [h1])
    · rcases List.mem_cons.1 h1 with rfl | h1
      · refine ⟨hok, fun b e => ?_⟩
        have h2 := (h.2.1 s (by simp)).2 b (hb ▸ e)
        exact ⟨h2.1, Nat.lt_of_lt_of_le h2.2 hg.size⟩
      · exact h.other hg (by simp [h1])
  · have hp := List.pairwise_append.1 h.2.2
    have hq := List.pairwise_cons.1 hp.2.1
    refine List.pairwise_append.2 ⟨hp.1, List.pairwise_cons.2 ⟨fun a ha b e => hq.1 a ha b (hb ▸ e), hq.2⟩, fun a ha b hb2 c e => ?_⟩
    rcases List.mem_cons.1 hb2 with rfl | h1
    · rw [hb]; exact hp.2.2 a ha s (by simp) c e
    · exact hp.2.2 a ha b (by simp [h1]) c e
theorem grown_two (w : World) (g : Nat) (u v : Value) : w.grownBy ((w.setCell ⟨g, 0, none⟩ u).setCell ⟨g, 1, none⟩ v) (some g) :=
  gb_setCell (gb_setCell (gb_refl w _) 0 u) 1 v
theorem Ev.store (us : List Th) {t : TypeId} {g : Nat} {x y : Value} (vs : List Th) (h : Ev w0 w (us ++ .var t g x y :: vs)) (u v : Value) :
    Ev w0 ((w.setCell ⟨g, 0, none⟩ u).setCell ⟨g, 1, none⟩ v) (us ++ .var t g u v :: vs) := by
  refine h.change us _ vs (grown_two w g u v) rfl ?_
  have h1 : w.heap[g]? = some (.cells #[x, y] t (0, 0)) := (h.2.1 (.var t g x y) (by simp)).1
  show ((w.setCell ⟨g, 0, none⟩ u).setCell ⟨g, 1, none⟩ v).heap[g]? = _
  simp [World.setCell, Array.getElem?_modify, h1]
theorem Ev.cells (h : Ev w0 w ts) {t : TypeId} {g : Nat} {x y : Value} (hm : Th.var t g x y ∈ ts) :
    w.cell? ⟨g, 0, none⟩ = some x ∧ w.cell? ⟨g, 1, none⟩ = some y ∧ w.frozen? ⟨g, 0, none⟩ = false ∧ w.frozen? ⟨g, 1, none⟩ = false :=
  two_cells (w0 := w) (C := w.heap.size) (Below.refl _ _) ((h.2.1 _ hm).1) ((h.2.1 _ hm).2 g rfl).2
theorem Ev.has (h : Ev w0 w ts) {t : TypeId} {A : Option Addr} {n c : Nat} {xs : List Value} (hm : Th.own t A n c xs ∈ ts) : Own t w w0.heap.size A n c xs := (h.2.1 _ hm).1
end
end Go.Proofs.Ytggdmhkdmkldoaa
