import Derived.Test.YtggdmhkdmkldoaaCw
import Derived.Test.YtggdmhkdmkldoaaRows
import Derived.OpenShut
import Derived.JoinedCond
import Derived.Test.YtggdmhkdmkldoaaRy
import Derived.Test.YtggdmhkdmkldoaaBits
namespace Go.Proofs.Ytggdmhkdmkldoaa
open Go.RowKit Hb
set_option linter.unusedVariables false
set_option linter.unusedSimpArgs false

/-! ### what a law holds: variables of two cells, slices of its own; each in a block of its own -/
inductive Th where
  | var (t : TypeId) (g : Nat) (x y : Value)
  | own (t : TypeId) (A : Option Addr) (n c : Nat) (xs : List Value)
def Th.blk : Th → Option Nat
  | .var _ g _ _ => some g
  | .own _ A _ _ _ => A.map Addr.block
def Th.ok (B : Nat) (w : World) : Th → Prop
  | .var t g x y => w.heap[g]? = some (.cells #[x, y] t (0, 0))
  | .own t A n c xs => Own t w B A n c xs
def Ev (w0 w : World) (ts : List Th) : Prop :=
  Below w0.heap.size w0 w ∧ (∀ t ∈ ts, t.ok w0.heap.size w ∧ ∀ b, t.blk = some b → w0.heap.size ≤ b ∧ b < w.heap.size) ∧ ts.Pairwise (fun s t => ∀ b, s.blk = some b → t.blk ≠ some b)
section
variable {w0 w w' : World} {ts us vs : List Th} {s : Th}
theorem Th.keep {B : Nat} {t : Th} (h : t.ok B w) (he : ∀ b, t.blk = some b → w'.heap[b]? = w.heap[b]?) : t.ok B w' := by
  cases t with
  | var t g x y => exact (he g rfl).trans h
  | own t A n c xs =>
    rcases Own.form h with ⟨h1, h2, h3⟩ | ⟨g, h1, _⟩
    · refine ⟨h.1, ?_⟩
      rcases h.2 with h4 | ⟨g, cap, cur, h5, _⟩
      · exact .inl h4
      · rw [h1] at h5; cases h5
    · subst h1
      exact Own.same h (he g rfl)
theorem Ev.b (h : Ev w0 w ts) : Below w0.heap.size w0 w := h.1
theorem Ev.nil (w : World) : Ev w w [] := ⟨Below.refl _ _, fun v hv => (by cases hv), List.Pairwise.nil⟩
theorem Ev.below (h : Ev w0 w ts) (hb : Below w.heap.size w w') : Ev w0 w' ts :=
  ⟨h.1.trans (hb.mono h.1.size), fun t ht => ⟨Th.keep (h.2.1 t ht).1 fun b hbk => hb.block b ((h.2.1 t ht).2 b hbk).2, fun b hbk => ⟨((h.2.1 t ht).2 b hbk).1, Nat.lt_of_lt_of_le ((h.2.1 t ht).2 b hbk).2 hb.size⟩⟩, h.2.2⟩
theorem Ev.add (h : Ev w0 w ts) (hb : Below w.heap.size w w') {t : Th} (hok : t.ok w0.heap.size w') (hk : ∀ b, t.blk = some b → w.heap.size ≤ b ∧ b < w'.heap.size) : Ev w0 w' (t :: ts) := by
  have h2 := h.below hb
  refine ⟨h2.1, fun u hu => ?_, List.Pairwise.cons (fun u hu b e1 e2 => ?_) h.2.2⟩
  · rcases List.mem_cons.1 hu with rfl | hu
    · exact ⟨hok, fun b e => ⟨Nat.le_trans h.1.size (hk b e).1, (hk b e).2⟩⟩
    · exact h2.2.1 u hu
  · have h3 := (hk b e1).1
    have h4 := ((h.2.1 u hu).2 b e2).2
    omega
theorem Ev.own (h : Ev w0 w ts) (hb : Below w.heap.size w w') {t : TypeId} {A : Option Addr} {n c : Nat} {xs : List Value} (ho : Own t w' w.heap.size A n c xs) : Ev w0 w' (.own t A n c xs :: ts) := by
  refine h.add hb (Own.mono ho h.1.size) fun b e => ?_
  rcases Own.form ho with ⟨h1, _⟩ | ⟨g, h1, h2, h3⟩
  · rw [Th.blk, h1] at e; cases e
  · rw [Th.blk, h1] at e; cases e; exact ⟨h2, h3⟩
theorem Ev.var (h : Ev w0 w ts) (t : TypeId) (x y : Value) : Ev w0 (w.alloc (.cells #[x, y] t)) (.var t w.heap.size x y :: ts) :=
  h.add ((Below.refl _ _).alloc (Nat.le_refl _) _) (heap_alloc_new w _) fun b e => by cases e; exact ⟨Nat.le_refl _, by simp⟩
theorem Ev.keeps (h : Ev w0 w (us ++ s :: vs)) (hg : w.grownBy w' s.blk) : Below w0.heap.size w0 w' := by
  refine Below.grown h.1 hg h.1.size fun k e => ?_
  exact ((h.2.1 s (by simp)).2 k e).1
theorem Ev.other (h : Ev w0 w (us ++ s :: vs)) (hg : w.grownBy w' s.blk) {t : Th} (ht : t ∈ us ++ vs) : t.ok w0.heap.size w' ∧ ∀ b, t.blk = some b → w0.heap.size ≤ b ∧ b < w'.heap.size := by
  have hm : t ∈ us ++ s :: vs := by
    rcases List.mem_append.1 ht with h1 | h1
    · simp [h1]
    · simp [h1]
  obtain ⟨h1, h2⟩ := h.2.1 t hm
  refine ⟨Th.keep h1 fun b e => hg.block b (h2 b e).2 fun e2 => ?_, fun b e => ⟨(h2 b e).1, Nat.lt_of_lt_of_le (h2 b e).2 hg.size⟩⟩
  have hp := List.pairwise_append.1 h.2.2
  rcases List.mem_append.1 ht with h3 | h3
  · exact hp.2.2 t h3 s (by simp) b e e2.symm
  · exact (List.pairwise_cons.1 hp.2.1).1 t h3 b e2.symm e
/-- one of them is written over, and left -/
theorem Ev.spend (us : List Th) (s : Th) (vs : List Th) (h : Ev w0 w (us ++ s :: vs)) (hg : w.grownBy w' s.blk) : Ev w0 w' (us ++ vs) :=
  ⟨h.keeps hg, fun t ht => h.other hg ht, by
    have hp := List.pairwise_append.1 h.2.2
    exact List.pairwise_append.2 ⟨hp.1, (List.pairwise_cons.1 hp.2.1).2, fun a ha b hb => hp.2.2 a ha b (by simp [hb])⟩⟩
/-- one of them is written, and stays -/
theorem Ev.change (us : List Th) (s : Th) (vs : List Th) (h : Ev w0 w (us ++ s :: vs)) (hg : w.grownBy w' s.blk) {t : Th} (hb : t.blk = s.blk) (hok : t.ok w0.heap.size w') : Ev w0 w' (us ++ t :: vs) := by
  refine ⟨h.keeps hg, fun u hu => ?_, ?_⟩
  · rcases List.mem_append.1 hu with h1 | h1
    · exact h.other hg (by simp [h1])
    · rcases List.mem_cons.1 h1 with rfl | h1
      · refine ⟨hok, fun b e => ?_⟩
        have h2 := (h.2.1 s (by simp)).2 b (hb ▸ e)
        exact ⟨h2.1, Nat.lt_of_lt_of_le h2.2 hg.size⟩
      · exact h.other hg (by simp [h1])
  · have hp := List.pairwise_append.1 h.2.2
    have hq := List.pairwise_cons.1 hp.2.1
    refine List.pairwise_append.2 ⟨hp.1, List.pairwise_cons.2 ⟨fun a ha b e => hq.1 a ha b (hb ▸ e), hq.2⟩, fun a ha b hb2 c e => ?_⟩
    rcases List.mem_cons.1 hb2 with rfl | h1
    · rw [hb]; exact hp.2.2 a ha s (by simp) c e
    · exact hp.2.2 a ha b (by simp [h1]) c e
theorem grown_two (w : World) (g : Nat) (u v : Value) : w.grownBy ((w.setCell ⟨g, 0, none⟩ u).setCell ⟨g, 1, none⟩ v) (some g) :=
  gb_setCell (gb_setCell (gb_refl w _) 0 u) 1 v
theorem Ev.store (us : List Th) {t : TypeId} {g : Nat} {x y : Value} (vs : List Th) (h : Ev w0 w (us ++ .var t g x y :: vs)) (u v : Value) :
    Ev w0 ((w.setCell ⟨g, 0, none⟩ u).setCell ⟨g, 1, none⟩ v) (us ++ .var t g u v :: vs) := by
  refine h.change us _ vs (grown_two w g u v) rfl ?_
  have h1 : w.heap[g]? = some (.cells #[x, y] t (0, 0)) := (h.2.1 (.var t g x y) (by simp)).1
  show ((w.setCell ⟨g, 0, none⟩ u).setCell ⟨g, 1, none⟩ v).heap[g]? = _
  simp [World.setCell, Array.getElem?_modify, h1]
theorem Ev.cells (h : Ev w0 w ts) {t : TypeId} {g : Nat} {x y : Value} (hm : Th.var t g x y ∈ ts) :
    w.cell? ⟨g, 0, none⟩ = some x ∧ w.cell? ⟨g, 1, none⟩ = some y ∧ w.frozen? ⟨g, 0, none⟩ = false ∧ w.frozen? ⟨g, 1, none⟩ = false :=
  two_cells (w0 := w) (C := w.heap.size) (Below.refl _ _) ((h.2.1 _ hm).1) ((h.2.1 _ hm).2 g rfl).2
theorem Ev.has (h : Ev w0 w ts) {t : TypeId} {A : Option Addr} {n c : Nat} {xs : List Value} (hm : Th.own t A n c xs ∈ ts) : Own t w w0.heap.size A n c xs := (h.2.1 _ hm).1
end
end Go.Proofs.Ytggdmhkdmkldoaa

namespace Go.Proofs.Ytggdmhkdmkldoaa
open Go.ChangeShapes Go.WideShapes Go.ChangeAt Go.RowKit Go.Joins Hb

/-! ### what the bound of the second form gives -/
theorem bulk_one {H : Type} (d : DataW H) : 1 ≤ Rows.uptoBulk d := by
  cases d with
  | lit l => cases l <;> simp [Rows.uptoBulk]
  | nil => simp [Rows.uptoBulk]
  | ptr d => simp [Rows.uptoBulk]
  | slice elems spare => simp [Rows.uptoBulk]
  | agg parts => simp [Rows.uptoBulk]
  | iface t d => simp [Rows.uptoBulk]
  | map entries => simp [Rows.uptoBulk]
  | held h => simp [Rows.uptoBulk]
theorem bulk_part {H : Type} {d : DataW H} {l : List (DataW H)} (h : d ∈ l) : Rows.uptoBulk d ≤ Rows.uptoBulkAll l := by
  induction l with
  | nil => cases h
  | cons x r ih =>
    simp only [Rows.uptoBulkAll]
    cases List.mem_cons.1 h with
    | inl e => subst e; omega
    | inr e => have := ih e; omega
theorem bulk_length {H : Type} (l : List (DataW H)) : l.length ≤ Rows.uptoBulkAll l := by
  induction l with
  | nil => simp [Rows.uptoBulkAll]
  | cons x l ih => have := bulk_one x; simp only [Rows.uptoBulkAll, List.length_cons]; omega
set_option maxRecDepth 100000 in
/-- an integer's limbs -/
theorem bulk_Int {H : Type} {enc : TypeId × Value → H} {W : World} {base : Nat} {v : Value} {d : DataW H} {p : List MemPlace} (hval : Value.okWide Try.prog W .any base 24 v)
    (h : DataW.Trod enc Try.prog W 0 (fun _ => true) true 24 v d p) {neg : Bool} {A : Option Addr} {n c : Nat} (hv : v = .agg #[.bool neg, .slice A n c]) : n ≤ Rows.uptoBulk d := by
  obtain ⟨v0, v1, y0, y1, m, rfl, hd, _, h0, h1⟩ := open_agg2 Try.underlying24 (by kernel_rfl) cellsInt hval h
  have e0 : v1 = .slice A n c := by simp at hv; exact hv.2
  rcases open_ints Try.underlying22 Try.underlying48 cellsU h1 with ⟨e1, _⟩ | ⟨a, n', c', zs, e1, _, hnc, hcm, hz, hx, _⟩
  · simp at e1; rw [e0] at e1; injection e1 with _ e2 _; omega
  · simp at e1; rw [e0] at e1; injection e1 with _ e2 _
    subst e2
    have h2 : n ≤ zs.length := by rw [hz]; split <;> omega
    have h3 : Rows.uptoBulk y1.1 ≤ Rows.uptoBulk d := by
      rw [hd]
      have := bulk_part (d := y1.1) (l := [y0.1, y1.1]) (by simp)
      simp only [Rows.uptoBulk]
      omega
    refine Nat.le_trans ?_ h3
    rw [hx]
    have h4 := bulk_length (lits (H := H) .u32 (zs.take n))
    have h5 : (lits (H := H) .u32 (zs.take n)).length = n := by simp [lits]; omega
    simp only [Rows.uptoBulk]
    omega
set_option maxRecDepth 100000 in
/-- one of the arguments -/
theorem bulk_in {H : Type} {ds gs : List (DataW H)} (hk : Rows.uptoSmall H (ds ++ gs) = true) {d : DataW H} (hd : d ∈ ds ++ gs) : Rows.uptoBulk d ≤ 1048576 :=
  Nat.le_trans (bulk_part hd) (of_decide_eq_true hk)
end Go.Proofs.Ytggdmhkdmkldoaa

namespace Go.Proofs.Ytggdmhkdmkldoaa
open Go.RowKit Hb

/-! ### the calls of a law by the document's answer -/
/-- an answer: the integer, or nought with an error -/
def Good (z : Int) (code : Int) (neg : Bool) (A : Option Addr) (n c : Nat) (l : List Nat) : Prop :=
  (code = 0 → neg = decide (z < 0) ∧ l = digs W z.natAbs) ∧ (code ≠ 0 → neg = false ∧ n = 0)
def AnsPost (w : World) (z code : Int) (e : Ending) (w' : World) : Prop :=
  ∃ neg A n c l, e = .returned (.tuple #[.agg #[.bool neg, .slice A n c], .int .i64 code]) ∧ OwnU w' w.heap.size A n c (u32s l) ∧ Good z code neg A n c l ∧ Below w.heap.size w w'
theorem own_nilU (w : World) (B : Nat) : OwnU w B none 0 0 (u32s []) := ⟨rfl, .inl ⟨rfl, rfl⟩⟩
theorem PostC.ans {w w' : World} {z code : Int} {e : Ending} (h : PostC w z code e w') : AnsPost w z code e w' := by
  obtain ⟨v, he, h0, h1, hb⟩ := h
  by_cases hc : code = 0
  · obtain ⟨A, c, rfl, ho⟩ := h0 hc
    exact ⟨_, A, _, c, _, he, ho, ⟨fun _ => ⟨rfl, rfl⟩, fun h => absurd hc h⟩, hb⟩
  · obtain rfl := h1 hc
    exact ⟨false, none, 0, 0, [], he, own_nilU _ _, ⟨fun h => absurd h hc, fun _ => ⟨rfl, rfl⟩⟩, hb⟩
theorem PostR.ans {w w' : World} {z code : Int} {e : Ending} (h : PostR w (if code = 0 then z else 0) code e w') : AnsPost w z code e w' := by
  obtain ⟨v, he, ⟨A, c, rfl, ho⟩, hb⟩ := h
  refine ⟨_, A, _, c, _, he, ho, ⟨fun hc => ?_, fun hc => ?_⟩, hb⟩
  · rw [if_pos hc]; exact ⟨rfl, rfl⟩
  · rw [if_neg hc]; exact ⟨by decide, by rw [show (0 : Int).natAbs = 0 from rfl, digs_zero]; rfl⟩
/-- the code of a call: the arguments' one, else the answer's -/
def codeOf (bad : Int) (z : Int) : Int := if bad = 0 then err (tooLong z) else bad
theorem codeOf_err (b : Bool) (z : Int) : err (b || tooLong z) = codeOf (err b) z := by
  cases b <;> cases h : tooLong z <;> simp [err, codeOf, h]
theorem rlng_digs (z : Int) : rlng (digs 2 z.natAbs).length = tooLong z := rfl
section
variable {w : World} {A A' : Option Addr} {n c n' c' : Nat} {l m : List Nat} {na nb : Bool} {x y z : Int}
theorem Of_w (hs : SlU w w.heap.size A n c l) (hn : n ≤ 1048576) (hx : ival na l = x) :
    Calls Try.prog 17 #[.agg #[.bool na, .slice A n c]] w (PostB w x) := Of_any na hs (by omega) (Nat.le_refl _) hx
theorem bits_leK (hs : SlU w w.heap.size A n c l) {k : Nat} (hn : 32 * n ≤ k) (hx : ival na l = x) : (digs 2 x.natAbs).length ≤ k := by
  refine digs_length_le (by decide) ?_
  rw [← hx, ival_natAbs]
  have h1 := nv_lt hs.dig
  rw [hs.len, show (4294967296 : Nat) = 2 ^ 32 from rfl, ← Nat.pow_mul] at h1
  exact Nat.lt_of_lt_of_le h1 (Nat.pow_le_pow_right (by decide) hn)
theorem bits_le (hs : SlU w w.heap.size A n c l) (hn : n ≤ 1048576) (hx : ival na l = x) : (digs 2 x.natAbs).length ≤ 33554432 := bits_leK hs (by omega) hx
theorem Add_w (hs : SlU w w.heap.size A n c l) (ht : SlU w w.heap.size A' n' c' m) (hn : n ≤ 1048576) (hn' : n' ≤ 1048576) (hx : ival na l = x) (hy : ival nb m = y) (hz : x + y = z) :
    Calls Try.prog 47 #[.agg #[.bool na, .slice A n c], .agg #[.bool nb, .slice A' n' c']] w (AnsPost w z (codeOf (err (tooLong x || tooLong y)) z)) := by
  have h := Add_any na nb hs ht (by omega) (by omega) (Nat.le_refl _) (Nat.le_refl _)
  rw [hx, hy, hz, lng_ival hx, lng_ival hy, codeOf_err] at h
  exact h.mono fun _ _ h => h.ans
theorem Sub_w (hs : SlU w w.heap.size A n c l) (ht : SlU w w.heap.size A' n' c' m) (hn : n ≤ 1048576) (hn' : n' ≤ 1048576) (hx : ival na l = x) (hy : ival nb m = y) (hz : x - y = z) :
    Calls Try.prog 50 #[.agg #[.bool na, .slice A n c], .agg #[.bool nb, .slice A' n' c']] w (AnsPost w z (codeOf (err (tooLong x || tooLong y)) z)) := by
  have h := Sub_any na nb hs ht (by omega) (by omega) (Nat.le_refl _) (Nat.le_refl _)
  rw [hx, hy, hz, lng_ival hx, lng_ival hy, codeOf_err] at h
  exact h.mono fun _ _ h => h.ans
theorem Mul_w (hs : SlU w w.heap.size A n c l) (ht : SlU w w.heap.size A' n' c' m) (hn : n ≤ 1048576) (hn' : n' ≤ 1048576) (hx : ival na l = x) (hy : ival nb m = y) (hz : x * y = z) :
    Calls Try.prog 46 #[.agg #[.bool na, .slice A n c], .agg #[.bool nb, .slice A' n' c']] w (AnsPost w z (codeOf (err (tooLong x || tooLong y)) z)) := by
  have h := Mul_any na nb hs ht (by omega) (Nat.le_refl _) (Nat.le_refl _)
  rw [hx, hy, hz, lng_ival hx, lng_ival hy, codeOf_err] at h
  exact h.mono fun _ _ h => h.ans
theorem lent_sl {B : Nat} (h : OwnU w B A (n + 3) c (u32s (l ++ [77, 77, 77]))) (hl : l.length = n) (hd : Dig W l) : SlU w w.heap.size A n c l := by
  have h2 := h.take (k := n) (by omega)
  rw [u32s_take, List.take_append_of_le_length (by omega), List.take_of_length_le (by omega)] at h2
  exact h2.sl hd hl
variable {E : Int}
theorem Add_we (hE : err (tooLong x || tooLong y) = E) (hs : SlU w w.heap.size A n c l) (ht : SlU w w.heap.size A' n' c' m) (hn : n ≤ 1048576) (hn' : n' ≤ 1048576) (hx : ival na l = x) (hy : ival nb m = y) (hz : x + y = z) :
    Calls Try.prog 47 #[.agg #[.bool na, .slice A n c], .agg #[.bool nb, .slice A' n' c']] w (AnsPost w z (codeOf E z)) := hE ▸ Add_w hs ht hn hn' hx hy hz
theorem Sub_we (hE : err (tooLong x || tooLong y) = E) (hs : SlU w w.heap.size A n c l) (ht : SlU w w.heap.size A' n' c' m) (hn : n ≤ 1048576) (hn' : n' ≤ 1048576) (hx : ival na l = x) (hy : ival nb m = y) (hz : x - y = z) :
    Calls Try.prog 50 #[.agg #[.bool na, .slice A n c], .agg #[.bool nb, .slice A' n' c']] w (AnsPost w z (codeOf E z)) := hE ▸ Sub_w hs ht hn hn' hx hy hz
theorem Mul_we (hE : err (tooLong x || tooLong y) = E) (hs : SlU w w.heap.size A n c l) (ht : SlU w w.heap.size A' n' c' m) (hn : n ≤ 1048576) (hn' : n' ≤ 1048576) (hx : ival na l = x) (hy : ival nb m = y) (hz : x * y = z) :
    Calls Try.prog 46 #[.agg #[.bool na, .slice A n c], .agg #[.bool nb, .slice A' n' c']] w (AnsPost w z (codeOf E z)) := hE ▸ Mul_w hs ht hn hn' hx hy hz
theorem long_we (hE : err (tooLong x || tooLong y) = E) (s s' : Bool) (A A' : Option Addr) (c c' : Nat) (w : World) :
    Calls Try.prog 18 #[.agg #[.bool s, .slice A (digs 2 x.natAbs).length c], .agg #[.bool s', .slice A' (digs 2 y.natAbs).length c']] w (LongCode E w) := hE ▸ rlong_any s s' A A' _ c _ c' w
end
section
variable {w : World} {B B' : Nat} {A A' : Option Addr} {c c' : Nat} {x y z : Int}
/-- bits that are the law's own, read -/
theorem bits_sl (h : OwnI w B A (digs 2 x.natAbs).length c (i64s (digs 2 x.natAbs))) : SlI w w.heap.size A (digs 2 x.natAbs).length c (digs 2 x.natAbs) := h.sl (dig_digs (by decide) _) rfl
theorem Sum_w (hs : SlI w w.heap.size A (digs 2 x.natAbs).length c (digs 2 x.natAbs)) (ht : SlI w w.heap.size A' (digs 2 y.natAbs).length c' (digs 2 y.natAbs)) (hn : (digs 2 x.natAbs).length ≤ 33554432) (hn' : (digs 2 y.natAbs).length ≤ 33554432) (hz : x + y = z) :
    Calls Try.prog 51 #[.agg #[.bool (decide (x < 0)), .slice A (digs 2 x.natAbs).length c], .agg #[.bool (decide (y < 0)), .slice A' (digs 2 y.natAbs).length c']] w (PostB w z) :=
  rsum_any hs ht (by omega) (by omega) (Nat.le_refl _) (Nat.le_refl _) (nrm_digs (by decide) _) (nrm_digs (by decide) _) (bval_digs x) (bval_digs y) hz
theorem Times_w (hs : SlI w w.heap.size A (digs 2 x.natAbs).length c (digs 2 x.natAbs)) (ht : SlI w w.heap.size A' (digs 2 y.natAbs).length c' (digs 2 y.natAbs)) (hn : (digs 2 x.natAbs).length ≤ 33554432) (hn' : (digs 2 y.natAbs).length ≤ 33554432) (hz : x * y = z) :
    Calls Try.prog 52 #[.agg #[.bool (decide (x < 0)), .slice A (digs 2 x.natAbs).length c], .agg #[.bool (decide (y < 0)), .slice A' (digs 2 y.natAbs).length c']] w (PostB w z) :=
  Times_any hs ht (by omega) (by omega) (Nat.le_refl _) (Nat.le_refl _) (bval_digs x) (bval_digs y) hz
theorem sg_neg (y : Int) : sg (!(decide (y < 0))) (digs 2 y.natAbs) = decide (-y < 0) := by
  rw [← bval_sg, bval, nv_digs (by decide)]
  refine decide_eq_decide.2 ?_
  by_cases h1 : y < 0
  · rw [decide_eq_true h1]
    simp only [Bool.not_true, Bool.false_eq_true, if_false]
    omega
  · rw [decide_eq_false h1]
    simp only [Bool.not_false, if_true]
    omega
theorem Minus_w {my : Int} (hm : -y = my) (hs : SlI w w.heap.size A (digs 2 y.natAbs).length c (digs 2 y.natAbs)) :
    Calls Try.prog 37 #[.agg #[.bool (decide (y < 0)), .slice A (digs 2 y.natAbs).length c]] w fun e w' => e = .returned (.agg #[.bool (decide (my < 0)), .slice A (digs 2 y.natAbs).length c]) ∧ Below w.heap.size w w' := by
  have h := rminus_any (s := decide (y < 0)) hs (Nat.le_refl _) (nrm_digs (by decide) _)
  rwa [sg_neg, hm] at h
theorem Sum_m {my : Int} (hm : -y = my) (hs : SlI w w.heap.size A (digs 2 x.natAbs).length c (digs 2 x.natAbs)) (ht : SlI w w.heap.size A' (digs 2 y.natAbs).length c' (digs 2 y.natAbs)) (hn : (digs 2 x.natAbs).length ≤ 33554432) (hn' : (digs 2 y.natAbs).length ≤ 33554432) (hz : x + my = z) :
    Calls Try.prog 51 #[.agg #[.bool (decide (x < 0)), .slice A (digs 2 x.natAbs).length c], .agg #[.bool (decide (my < 0)), .slice A' (digs 2 y.natAbs).length c']] w (PostB w z) :=
  rsum_any hs ht (by omega) (by omega) (Nat.le_refl _) (Nat.le_refl _) (nrm_digs (by decide) _) (nrm_digs (by decide) _) (bval_digs x) (by have := bval_digs my; rwa [← hm, Int.natAbs_neg, hm] at this) hz
theorem is_w {n : Nat} {code bad : Int} {neg : Bool} {l : List Nat} (ho : OwnU w B A n c (u32s l)) (hB : B ≤ w.heap.size) (hg : Good z code neg A n c l) (ht : SlI w B' A' (digs 2 z.natAbs).length c' (digs 2 z.natAbs)) (hB' : B' ≤ w.heap.size) (hcode : code = codeOf bad z) :
    Calls Try.prog 25 #[.agg #[.bool neg, .slice A n c], .int .i64 code, .agg #[.bool (decide (z < 0)), .slice A' (digs 2 z.natAbs).length c'], .int .i64 bad] w (IsPost w (A.map Addr.block)) := by
  by_cases hc : code = 0
  · obtain ⟨rfl, rfl⟩ := hg.1 hc
    have hb : bad = 0 ∧ tooLong z = false := by
      rw [hcode, codeOf] at hc
      by_cases hb : bad = 0
      · rw [if_pos hb] at hc
        refine ⟨hb, ?_⟩
        cases h : tooLong z
        · rfl
        · rw [h] at hc; simp [err] at hc
      · rw [if_neg hb] at hc; exact absurd hc hb
    obtain ⟨rfl, hl⟩ := hb
    have hn := ho.length
    rw [u32s_length] at hn
    subst hn
    rw [hc]
    exact is_good ho hB ht hB' hl (Nat.le_trans (not_too_len hl) (by decide))
  · obtain ⟨rfl, rfl⟩ := hg.2 hc
    refine is_bad _ _ _ _ _ _ code bad w _ hc ?_
    rw [hcode, codeOf]
    by_cases hb : bad = 0
    · right
      rw [if_pos hb]
      refine ⟨hb, ?_, ?_⟩
      · rw [rlng_digs]
        cases h : tooLong z
        · rw [hcode, codeOf, if_pos hb, h] at hc; exact absurd rfl hc
        · rfl
      · cases h : tooLong z
        · rw [hcode, codeOf, if_pos hb, h] at hc; exact absurd rfl hc
        · rfl
    · left; rw [if_neg hb]
end
end Go.Proofs.Ytggdmhkdmkldoaa

namespace Go.Proofs.Ytggdmhkdmkldoaa
open Go.RowKit Hb

/-! ### Small: an int as bits -/
theorem small_step (s : Bool) {N : Int} {X : Nat} (h : N = if s then -(X : Int) else X) (h0 : N ≠ 0) :
    0 < X ∧ (N.tmod 2 = 0 ∧ X % 2 = 0 ∨ N.tmod 2 = 1 ∧ X % 2 = 1 ∨ N.tmod 2 = -1 ∧ X % 2 = 1) ∧ N.tdiv 2 = (if s then -((X / 2 : Nat) : Int) else ((X / 2 : Nat) : Int)) := by
  have e1 : (X : Int).tmod 2 = ((X % 2 : Nat) : Int) := by rw [Int.tmod_eq_emod_of_nonneg (by omega)]; omega
  have e2 : (X : Int).tdiv 2 = ((X / 2 : Nat) : Int) := by rw [Int.tdiv_eq_ediv_of_nonneg (by omega)]; omega
  cases s
  · simp only [Bool.false_eq_true, if_false] at h ⊢
    subst h
    rw [e1, e2]
    omega
  · simp only [if_true] at h ⊢
    subst h
    rw [Int.neg_tmod, Int.neg_tdiv, e1, e2]
    omega
/-- j bits of a in the list, what is left is N -/
def SmRel (W0 : World) (s : Bool) (a : Nat) (xv bv : Value) (wr : World) (j X : Nat) (N : Int) : Prop :=
  xv = .int .i64 N ∧ N = (if s then -(X : Int) else X) ∧ a / 2 ^ j = X ∧ OfRel W0 (lb a j) bv wr
set_option maxRecDepth 100000 in
set_option maxHeartbeats 2000000 in
theorem Small_any (k : Int) (hk : -9223372036854775808 ≤ k ∧ k ≤ 9223372036854775807) (w : World) :
    Calls Try.prog 39 #[.int .i64 k] w (PostB w k) := by
  obtain ⟨s, hs⟩ : ∃ s, decide (k < 0) = s := ⟨_, rfl⟩
  obtain ⟨a, ha⟩ : ∃ a, k.natAbs = a := ⟨_, rfl⟩
  have HK := Lib.hid hk
  have ha64 : a ≤ 9223372036854775808 := by omega
  have hks : k = (if s then -(a : Int) else a) := by
    cases s
    · have := of_decide_eq_false hs; simp; omega
    · have := of_decide_eq_true hs; simp; omega
  have HV := Lib.hid (show bval s (digs 2 a) = k by unfold bval; rw [nv_digs (by decide), hks])
  have HVb := Lib.hid (fun l (hl : nv 2 l = a) => show bval s l = k by unfold bval; rw [hl, hks])
  have HS := Lib.hid hs
  have HKS := Lib.hid hks
  have HB := Lib.hid ((Below.refl w.heap.size w).alloc (Nat.le_refl _) (.cells #[.bool false, .slice none 0 0] 28))
  have HX := Lib.hid (show (w.alloc (.cells #[.bool false, .slice none 0 0] 28)).heap[w.heap.size]? = some (.cells #[.bool false, .slice none 0 0] 28 (0, 0)) from heap_alloc_new w _)
  have hsz : w.heap.size < (w.alloc (.cells #[.bool false, .slice none 0 0] 28)).heap.size := by simp
  have hd1 : decide (k < 0) = s := hs
  clear ha hks hs
  go_enter Try.func39, Try.ntmps39
  go_wp2_with fail
  generalize (w.alloc (.cells #[.bool false, .slice none 0 0] 28)) = W0 at *
  have HR0 := Lib.hid (show SmRel W0 s a (.int .i64 k) (.slice none 0 0) W0 0 a k from ⟨rfl, HKS.out, by rw [Nat.pow_zero, Nat.div_one], OfRel.start W0⟩)
  clear hk
  go_loopw [0, 4] (fun xv bv wr => ∃ (j X : Nat) (N : Int), -9223372036854775808 ≤ N ∧ N ≤ 9223372036854775807 ∧ SmRel W0 s a xv bv wr j X N) (fun xv _ _ => (intOf xv).natAbs)
  case atStart => exact ⟨0, a, k, HK.out.1, HK.out.2, HR0.out⟩
  case round =>
    obtain ⟨j, X, N, hN1, hN2, rfl, hNX, hX, A1, n1, c1, rfl, ho1, hl1, hb1⟩ := hrel
    have HO := Lib.hid ho1
    have HL := Lib.hid hl1
    have HB1 := Lib.hid hb1
    have hz1 := hb1.size
    have HNX := Lib.hid hNX
    have HXj := Lib.hid hX
    clear ho1 hl1 hb1 HR0 hNX hX
    by_cases h0 : N = 0
    · subst h0
      have hX0 : X = 0 := by have := HNX.out; split at this <;> omega
      have HZ := Lib.hid (HVb.out (lb a j) (by
        rw [lb_nv]
        refine Nat.mod_eq_of_lt ?_
        have h1 := HXj.out
        rw [hX0] at h1
        exact (Nat.div_eq_zero_iff.1 h1).resolve_left (Nat.ne_of_gt (Nat.pow_pos (by decide)))))
      have HBf := Lib.hid (HB.out.trans (HB1.out.mono HB.out.size))
      clear HNX HXj hX0
      go_wp2_with fail
      (with_reducible refine (rlaid_at s HO.out HL.out (lb_dig a j) HZ.out).mono ?_)
      rintro ex w5 ⟨rfl, ho5, hb5⟩
      obtain ⟨r0, r1, r2, r3⟩ := two_cells (HB1.out.trans (hb5.mono hz1)) HX.out hsz
      have HO5 := Lib.hid ho5
      have HB5 := Lib.hid (HBf.out.trans (hb5.mono HBf.out.size))
      clear ho5 hb5
      go_wp2
      have hr := ResB.stored (w := w) (g := w.heap.size) (u := .bool s) (u' := .slice A1 (digs 2 k.natAbs).length c1) ⟨A1, c1, rfl, HO5.out⟩ HB5.out (by omega) (by omega)
      exact bodyPost_ret (v := .agg #[.bool (decide (k < 0)), .slice A1 (digs 2 k.natAbs).length c1]) (by simp [results, Try.results39, go_sem, r0, r1]; exact HS.out.symm) rfl ⟨_, rfl, hr.1, hr.2⟩
    · obtain ⟨hXp, hmod, hdiv⟩ := small_step s HNX.out h0
      obtain ⟨M, hM⟩ : ∃ M, N.tdiv 2 = M := ⟨_, rfl⟩
      have HMd := Lib.hid (show M = (if s then -((X / 2 : Nat) : Int) else ((X / 2 : Nat) : Int)) from hM ▸ hdiv)
      have hMb : -9223372036854775808 ≤ M ∧ M ≤ 9223372036854775807 ∧ M.natAbs < N.natAbs := by
        have h1 := HNX.out
        have h2 := HMd.out
        split at h1 <;> omega
      have hj : j ≤ 64 := by
        refine Nat.le_of_lt (pow_lt_pow' (b := 2) (by decide) (Nat.lt_of_le_of_lt ?_ (show 9223372036854775808 < 2 ^ 64 by decide)))
        refine Nat.le_trans ?_ ha64
        have h1 := HXj.out
        refine Nat.le_of_not_lt fun h2 => ?_
        rw [Nat.div_eq_of_lt h2] at h1
        omega
      have hn1 : n1 ≤ 64 := by have h1 := HL.out; rw [lb_length] at h1; omega
      have HXq := Lib.hid (show a / 2 ^ (j + 1) = X / 2 by rw [Nat.pow_succ, ← Nat.div_div_eq_div_mul, HXj.out])
      obtain ⟨hMb1, hMb2, hMb3⟩ := hMb
      clear hdiv HV HVb
      rcases hmod with ⟨hm, hy⟩ | ⟨hm, hy⟩ | ⟨hm, hy⟩
      all_goals
        have HLB := Lib.hid (show lb a (j + 1) = lb a j ++ [_] by rw [lb, HXj.out, hy])
        clear hy
        go_wp2_with (at_builtin; refine wpList_append_i64 (by rfl) _ _ (by rfl) W0.heap.size A1 n1 c1 (lb a j) (by rfl) (Own.alloc HO.out _) wr.heap.size _ (by rfl) (by simp [go_sem]; rfl) (Nat.le_trans hn1 (by decide)) (by simp; omega) ?_; intro A3 c3 w3 ho3 hb3)
        have HR3 := Lib.hid (show OfRel W0 (lb a (j + 1)) (.slice A3 (n1 + 1) c3) w3 from ⟨A3, n1 + 1, c3, rfl, by rw [HLB.out]; exact ho3, by rw [HLB.out, List.length_append, HL.out]; rfl, (HB1.out.alloc (by omega) _).trans hb3⟩)
        clear ho3 hb3
        go_wp2_with fail
        go_roundw
        case rel => exact ⟨j + 1, X / 2, M, hMb1, hMb2, rfl, HMd.out, HXq.out, HR3.out⟩
        case measure => simp [intOf]; omega
end Go.Proofs.Ytggdmhkdmkldoaa

namespace Go.Proofs.Ytggdmhkdmkldoaa
open Go.RowKit Hb

/-! ### twos: bits of a two's complement -/
theorem digs2_get : ∀ (i n : Nat), (digs 2 n).getD i 0 = (n.testBit i).toNat
  | 0, n => by
    by_cases h : n = 0
    · subst h; rw [digs_zero]; simp
    · rw [digs_pos (by decide) h, Nat.testBit_zero]
      show n % 2 = _
      rcases Nat.mod_two_eq_zero_or_one n with e | e <;> rw [e] <;> rfl
  | i + 1, n => by
    by_cases h : n = 0
    · subst h; rw [digs_zero]; simp
    · rw [digs_pos (by decide) h, Nat.testBit_succ, ← digs2_get i (n / 2)]
      rfl
/-- the first k bits -/
def tb (z : Int) : Nat → List Nat | 0 => [] | k + 1 => tb z k ++ [(ib z k).toNat]
theorem tb_length (z : Int) : ∀ k, (tb z k).length = k | 0 => rfl | k + 1 => by rw [tb, List.length_append, tb_length z k]; rfl
theorem tb_dig (z : Int) : ∀ k, Dig 2 (tb z k) | 0 => Dig.nil _ | k + 1 => (tb_dig z k).append (Dig.cons (by cases ib z k <;> decide) (Dig.nil _))
theorem tb_get (z : Int) : ∀ (k i : Nat), i < k → (tb z k).getD i 0 = (ib z i).toNat
  | 0, i, h => absurd h (by omega)
  | k + 1, i, h => by
    rw [tb]
    by_cases hi : i < k
    · rw [List.getD_eq_getElem?_getD, List.getElem?_append_left (by rw [tb_length]; exact hi), ← List.getD_eq_getElem?_getD, tb_get z k i hi]
    · obtain rfl : i = k := by omega
      rw [List.getD_eq_getElem?_getD, List.getElem?_append_right (by rw [tb_length]; exact Nat.le_refl _), tb_length]
      simp
theorem pos_bit {z : Int} (hz : 0 ≤ z) (i : Nat) : bitZ (digs 2 z.natAbs) (i : Int) = (ib z i).toNat := by
  rw [bitZ_nat, digs2_get, ← ib_nat]
  congr 2
  omega
theorem neg_bit {z : Int} (hz : z < 0) (i : Nat) : 1 - (bitZ (digs 2 (-1 - z).natAbs) (i : Int) : Int) = ((ib z i).toNat : Int) := by
  rw [pos_bit (by omega), ib_not]
  cases ib z i <;> rfl
def TwPost (w : World) (z : Int) (k : Nat) (e : Ending) (w' : World) : Prop :=
  ∃ A c, e = .returned (.slice A k c) ∧ OwnI w' w.heap.size A k c (i64s (tb z k)) ∧ Below w.heap.size w w'
def TbRel (W0 : World) (z : Int) (i : Nat) (bv : Value) (wr : World) : Prop :=
  ∃ A c, bv = .slice A i c ∧ OwnI wr W0.heap.size A i c (i64s (tb z i)) ∧ Below W0.heap.size W0 wr
theorem TbRel.start (W0 : World) (z : Int) : TbRel W0 z 0 (.slice none 0 0) W0 := ⟨none, 0, rfl, ⟨rfl, .inl ⟨rfl, rfl⟩⟩, Below.refl _ _⟩
theorem bit01 (b : Bool) : (b.toNat : Int) = 0 ∨ (b.toNat : Int) = 1 := by cases b <;> simp
set_option maxRecDepth 100000 in
set_option maxHeartbeats 2000000 in
theorem rtwos_pos {x : Int} {B : Nat} {A : Option Addr} {c : Nat} {w : World} (hs : SlI w B A (digs 2 x.natAbs).length c (digs 2 x.natAbs)) (hB : B ≤ w.heap.size) (k : Nat) (hk : k ≤ 67108864) (hx : 0 ≤ x) :
    Calls Try.prog 94 #[.agg #[.bool false, .slice A (digs 2 x.natAbs).length c], .int .i64 (k : Int)] w (TwPost w x k) := by
  have HB := Lib.hid ((Below.refl w.heap.size w).alloc (Nat.le_refl _) (.cells #[.bool false, .slice A (digs 2 x.natAbs).length c] 28))
  have HX := Lib.hid (show (w.alloc (.cells #[.bool false, .slice A (digs 2 x.natAbs).length c] 28)).heap[w.heap.size]? = some (.cells #[.bool false, .slice A (digs 2 x.natAbs).length c] 28 (0, 0)) from heap_alloc_new w _)
  have hsz : w.heap.size < (w.alloc (.cells #[.bool false, .slice A (digs 2 x.natAbs).length c] 28)).heap.size := by simp
  have HBit := Lib.hid (fun (i : Nat) w1 (hb : Below w.heap.size w w1) => show Calls Try.prog 77 #[.slice A (digs 2 x.natAbs).length c, .int .i64 (i : Int)] w1 (fun e w' => e = .returned (.int .i64 ((ib x i).toNat : Nat)) ∧ w1 = w') from by
    have h := rbit_any (hs.below (C := w.heap.size) hb hB) (i : Int)
    rwa [pos_bit hx] at h)
  have hkI : (k : Int) ≤ 67108864 := by omega
  generalize (digs 2 x.natAbs).length = n at *
  clear hs hB hx
  go_enter Try.func94, Try.ntmps94
  go_upto_region 1 with fail
  obtain ⟨a0, a1, _, _⟩ := two_cells (Below.refl _ _) HX.out hsz
  generalize (w.alloc (.cells #[.bool false, .slice A n c] 28)) = W0 at *
  have HR0 := Lib.hid (TbRel.start W0 x)
  go_wp2_with fail
  go_loopw [8, 9] (fun bv iv wr => ∃ i : Nat, i ≤ k ∧ iv = .int .i64 (i : Int) ∧ TbRel W0 x i bv wr) (fun _ iv _ => k - (intOf iv).toNat)
  case atStart => exact ⟨0, Nat.zero_le _, rfl, HR0.out⟩
  case round =>
    obtain ⟨i, hi, rfl, A1, c1, rfl, ho1, hb1⟩ := hrel
    have HO := Lib.hid ho1
    have HB1 := Lib.hid hb1
    have hz1 := hb1.size
    have HBw := Lib.hid (HB.out.trans (HB1.out.mono HB.out.size))
    have hi0 : (0 : Int) ≤ (i : Int) := by omega
    obtain ⟨a0, a1, _, _⟩ := two_cells hb1 HX.out hsz
    clear ho1 hb1 HR0
    by_cases hik : i < k
    · have hikI : (i : Int) < (k : Int) := by omega
      have HC := Lib.hid (HBit.out i _ HBw.out)
      have hi9 : i ≤ 4294967296 := by omega
      obtain ⟨y, hy⟩ : ∃ y, (ib x i).toNat = y := ⟨_, rfl⟩
      rw [hy] at HC
      have HT := Lib.hid (show tb x (i + 1) = tb x i ++ [y] by rw [tb, hy])
      clear hy
      go_wp2_with fail
      (with_reducible refine HC.out.mono ?_)
      rintro ex w5 ⟨rfl, rfl⟩
      go_wp2_with (at_builtin; refine wpList_append_i64 (by rfl) _ _ (by rfl) W0.heap.size A1 i c1 (tb x i) (by rfl) (Own.alloc HO.out _) wr.heap.size y (by rfl) (by simp [go_sem]) hi9 (by simp; omega) ?_; intro A3 c3 w3 ho3 hb3)
      have HR3 := Lib.hid (show TbRel W0 x (i + 1) (.slice A3 (i + 1) c3) w3 from ⟨A3, c3, rfl, by rw [HT.out]; exact ho3, (HB1.out.alloc (by omega) _).trans hb3⟩)
      clear ho3 hb3
      go_wp2_with fail
      go_roundw
      case rel => exact ⟨i + 1, by omega, by go_num, HR3.out⟩
      case measure => simp [intOf]; omega
    · obtain rfl : i = k := by omega
      go_wp2
      go_ret
      exact ⟨A1, c1, rfl, Own.mono HO.out HB.out.size, HBw.out⟩
set_option maxRecDepth 100000 in
set_option maxHeartbeats 2000000 in
theorem rtwos_neg {x : Int} {B : Nat} {A : Option Addr} {c : Nat} {w : World} (hs : SlI w B A (digs 2 x.natAbs).length c (digs 2 x.natAbs)) (hB : B ≤ w.heap.size) (hn : (digs 2 x.natAbs).length ≤ 33554432) (k : Nat) (hk : k ≤ 67108864) (hx : x < 0) :
    Calls Try.prog 94 #[.agg #[.bool true, .slice A (digs 2 x.natAbs).length c], .int .i64 (k : Int)] w (TwPost w x k) := by
  obtain ⟨mx, hmx⟩ : ∃ m, -x = m := ⟨_, rfl⟩
  obtain ⟨y, hy⟩ : ∃ y, -1 - x = y := ⟨_, rfl⟩
  have hdt : decide (x < 0) = true := decide_eq_true hx
  have hdm : decide (mx < 0) = false := decide_eq_false (by omega)
  have hdy : decide (y < 0) = false := decide_eq_false (by omega)
  have HB := Lib.hid ((Below.refl w.heap.size w).alloc (Nat.le_refl _) (.cells #[.bool true, .slice A (digs 2 x.natAbs).length c] 28))
  have HX := Lib.hid (show (w.alloc (.cells #[.bool true, .slice A (digs 2 x.natAbs).length c] 28)).heap[w.heap.size]? = some (.cells #[.bool true, .slice A (digs 2 x.natAbs).length c] 28 (0, 0)) from heap_alloc_new w _)
  have hsz : w.heap.size < (w.alloc (.cells #[.bool true, .slice A (digs 2 x.natAbs).length c] 28)).heap.size := by simp
  have HMin := Lib.hid (fun w1 (hb : Below w.heap.size w w1) => by
    have h := Minus_w hmx ((hs.below (C := w.heap.size) hb hB).mono (Nat.le_trans hB hb.size))
    rw [hdt, hdm] at h
    exact h)
  have HSum := Lib.hid (fun w1 (hb : Below w.heap.size w w1) (w3 : World) (A2 : Option Addr) (c2 : Nat) (hb2 : Below w1.heap.size w1 w3) (ho2 : OwnI w3 w1.heap.size A2 (digs 2 (-1 : Int).natAbs).length c2 (i64s (digs 2 (-1 : Int).natAbs))) =>
    show Calls Try.prog 51 #[.agg #[.bool false, .slice A (digs 2 x.natAbs).length c], .agg #[.bool true, .slice A2 (digs 2 (-1 : Int).natAbs).length c2]] w3 (PostB w3 y) from
      rsum_any (sx := false) (sy := true) (hs.below (C := w.heap.size) (hb.trans (hb2.mono hb.size)) hB) (bits_sl ho2) (by omega) (Nat.le_trans (digs_length_le (b := 2) (k := 1) (by decide) (by decide)) (by decide)) (Nat.le_trans hB (hb.trans (hb2.mono hb.size)).size) (Nat.le_refl _) (nrm_digs (by decide) _) (nrm_digs (by decide) _) (x := mx) (y := -1)
        (by have := bval_digs mx; rwa [hdm, ← hmx, Int.natAbs_neg, hmx] at this) (by have h := bval_digs (-1); rw [show decide ((-1 : Int) < 0) = true from rfl] at h; exact h) (by omega))
  have HYB := Lib.hid (fun i => neg_bit hx i)
  rw [hy] at HYB
  have hkI : (k : Int) ≤ 67108864 := by omega
  generalize (digs 2 x.natAbs).length = n at *
  clear hs hB hx hn hmx hdt hdm hy
  go_enter Try.func94, Try.ntmps94
  go_upto_region 1 with fail
  obtain ⟨a0, a1, _, _⟩ := two_cells (Below.refl _ _) HX.out hsz
  generalize (w.alloc (.cells #[.bool true, .slice A n c] 28)) = W1 at *
  go_wp2_with fail
  (refine (HMin.out _ HB.out).mono ?_)
  rintro ex w2 ⟨rfl, hb2⟩
  have K2 := Lib.hid (HB.out.trans (hb2.mono HB.out.size))
  have H2 := Lib.hid hb2
  clear hb2 a0 a1
  go_wp2_with fail
  (refine (Small_any (-1) (by decide) _).mono ?_)
  rintro ex w3 ⟨v3, rfl, ⟨A3, c3, rfl, ho3⟩, hb3⟩
  have HO3 := Lib.hid ho3
  have HB3 := Lib.hid hb3
  clear ho3 hb3
  go_wp2_with fail
  (refine (HSum.out _ K2.out _ _ _ HB3.out HO3.out).mono ?_)
  rintro ex w4 ⟨v4, rfl, ⟨A4, c4, rfl, ho4⟩, hb4⟩
  have hz2 := H2.out.size
  have hz3 := HB3.out.size
  have hz4 := hb4.size
  have K4 := Lib.hid (K2.out.trans ((HB3.out.trans (hb4.mono hz3)).mono K2.out.size))
  have HO4 := Lib.hid (show OwnI (w4.alloc (.cells #[.bool (decide (y < 0)), .slice A4 (digs 2 y.natAbs).length c4] 28)) w3.heap.size A4 (digs 2 y.natAbs).length c4 (i64s (digs 2 y.natAbs)) from Own.alloc ho4 _)
  have HX5 := Lib.hid (show (w4.alloc (.cells #[.bool (decide (y < 0)), .slice A4 (digs 2 y.natAbs).length c4] 28)).heap[w4.heap.size]? = some (.cells #[.bool (decide (y < 0)), .slice A4 (digs 2 y.natAbs).length c4] 28 (0, 0)) from heap_alloc_new w4 _)
  have HB5 := Lib.hid (K4.out.alloc (by have := K4.out.size; omega) (.cells #[.bool (decide (y < 0)), .slice A4 (digs 2 y.natAbs).length c4] 28))
  have hsz5 : w4.heap.size < (w4.alloc (.cells #[.bool (decide (y < 0)), .slice A4 (digs 2 y.natAbs).length c4] 28)).heap.size := by simp
  rw [hdy] at HO4 HX5 HB5 hsz5
  clear ho4 hb4 K4
  have HBit := Lib.hid (fun (i : Nat) w1 (hb : Below (w4.alloc (.cells #[.bool false, .slice A4 (digs 2 y.natAbs).length c4] 28)).heap.size (w4.alloc (.cells #[.bool false, .slice A4 (digs 2 y.natAbs).length c4] 28)) w1) => rbit_any (bits_sl (HO4.out.below hb (Nat.le_refl _))) (i : Int))
  generalize (digs 2 y.natAbs).length = n4 at *
  generalize digs 2 y.natAbs = l4 at *
  go_upto_region 3 with fail
  generalize (w4.alloc (.cells #[.bool false, .slice A4 n4 c4] 28)) = W0 at *
  have HR0 := Lib.hid (TbRel.start W0 x)
  go_wp2_with fail
  go_loopw [6, 7] (fun bv iv wr => ∃ i : Nat, i ≤ k ∧ iv = .int .i64 (i : Int) ∧ TbRel W0 x i bv wr) (fun _ iv _ => k - (intOf iv).toNat)
  case atStart => exact ⟨0, Nat.zero_le _, rfl, HR0.out⟩
  case round =>
    obtain ⟨i, hi, rfl, A1, c1, rfl, ho1, hb1⟩ := hrel
    have HO := Lib.hid ho1
    have HB1 := Lib.hid hb1
    have hz1 := hb1.size
    have HBw := Lib.hid (HB5.out.trans (HB1.out.mono HB5.out.size))
    have hi0 : (0 : Int) ≤ (i : Int) := by omega
    obtain ⟨a0, a1, _, _⟩ := two_cells hb1 HX5.out hsz5
    clear ho1 hb1 HR0
    by_cases hik : i < k
    · have hikI : (i : Int) < (k : Int) := by omega
      have HC := Lib.hid (HBit.out i _ HB1.out)
      have hi9 : i ≤ 4294967296 := by omega
      obtain ⟨r, hr⟩ : ∃ y, (ib x i).toNat = y := ⟨_, rfl⟩
      have HT := Lib.hid (show tb x (i + 1) = tb x i ++ [r] by rw [tb, hr])
      have hbit := HYB.out i
      rw [hr] at hbit
      have hrb : r ≤ 1 := by rw [← hr]; cases ib x i <;> simp
      generalize bitZ l4 (i : Int) = q at *
      have hw1 : (1 : Int) - (q : Int) = (r : Int) := hbit
      clear hr hbit
      go_wp2_with fail
      (with_reducible refine HC.out.mono ?_)
      rintro ex w5 ⟨rfl, rfl⟩
      go_wp2_with (at_builtin; refine wpList_append_i64 (by rfl) _ _ (by rfl) W0.heap.size A1 i c1 (tb x i) (by rfl) (Own.alloc HO.out _) wr.heap.size r (by rfl) (by simp [go_sem]) hi9 (by simp; omega) ?_; intro A3 c3 w3 ho3 hb3)
      have HR3 := Lib.hid (show TbRel W0 x (i + 1) (.slice A3 (i + 1) c3) w3 from ⟨A3, c3, rfl, by rw [HT.out]; exact ho3, (HB1.out.alloc (by omega) _).trans hb3⟩)
      clear ho3 hb3
      go_wp2_with fail
      go_roundw
      case rel => exact ⟨i + 1, by omega, by go_num, HR3.out⟩
      case measure => simp [intOf]; omega
    · obtain rfl : i = k := by omega
      go_wp2
      go_ret
      exact ⟨A1, c1, rfl, Own.mono HO.out (by have := HB5.out.size; omega), HBw.out⟩
theorem rtwos_any {x : Int} {B : Nat} {A : Option Addr} {c : Nat} {w : World} (hs : SlI w B A (digs 2 x.natAbs).length c (digs 2 x.natAbs)) (hB : B ≤ w.heap.size) (hn : (digs 2 x.natAbs).length ≤ 33554432) (k : Nat) (hk : k ≤ 67108864) :
    Calls Try.prog 94 #[.agg #[.bool (decide (x < 0)), .slice A (digs 2 x.natAbs).length c], .int .i64 (k : Int)] w (TwPost w x k) := by
  by_cases hx : x < 0
  · rw [decide_eq_true hx]; exact rtwos_neg hs hB hn k hk hx
  · rw [decide_eq_false hx]; exact rtwos_pos hs hB k hk (by omega)
end Go.Proofs.Ytggdmhkdmkldoaa

namespace Go.Proofs.Ytggdmhkdmkldoaa
open Go.RowKit Hb

/-! ### back: a two's complement's bits as an integer -/
def PostBb (w : World) (B : Nat) (z : Int) (e : Ending) (w' : World) : Prop := ∃ v, e = .returned v ∧ ResB w' B v z ∧ Below w.heap.size w w'
/-- all bits the other way -/
def cl (l : List Nat) : List Nat := l.map fun x => 1 - x
theorem cl_length (l : List Nat) : (cl l).length = l.length := by simp [cl]
theorem cl_dig (l : List Nat) : Dig 2 (cl l) := fun x hx => by
  obtain ⟨y, _, rfl⟩ := List.mem_map.1 hx
  show 1 - y < 2
  omega
theorem cl_nv : ∀ {l : List Nat}, Dig 2 l → nv 2 (cl l) + nv 2 l + 1 = 2 ^ l.length
  | [], _ => rfl
  | x :: l, h => by
    have h1 := cl_nv h.tail
    have h2 := h.head
    rw [cl, List.map_cons, nv_cons, nv_cons, List.length_cons, Nat.pow_succ]
    unfold cl at h1
    omega
theorem cl_snoc (l : List Nat) {k : Nat} (hk : k < l.length) : cl (l.take (k + 1)) = cl (l.take k) ++ [1 - l.getD k 0] := by
  rw [List.take_succ_eq_append_getElem hk, cl, cl, List.map_append, getD_eq hk]
  rfl
theorem last_split {l : List Nat} {n : Nat} (hl : l.length = n) (hn : 0 < n) : nv 2 l = nv 2 (l.take (n - 1)) + 2 ^ (n - 1) * l.getD (n - 1) 0 := by
  have h := take_succ_nv 2 l (k := n - 1) (by omega)
  rwa [List.take_of_length_le (by omega)] at h
theorem tcv_low {l : List Nat} {n : Nat} (hl : l.length = n) (hn : 0 < n) (hd : Dig 2 l) (h0 : l.getD (n - 1) 0 = 0) : bval false l = tcv n (nv 2 l) := by
  have h1 := last_split hl hn
  have h2 := nv_lt (hd.take (n - 1))
  rw [List.length_take, Nat.min_eq_left (by omega)] at h2
  obtain ⟨k, rfl⟩ : ∃ k, n = k + 1 := ⟨n - 1, by omega⟩
  rw [Nat.add_sub_cancel] at h1 h2 h0
  have h3 : 2 * nv 2 l < 2 ^ (k + 1) := by rw [h1, h0, Nat.mul_zero, Nat.pow_succ]; omega
  rw [tcv, if_pos h3]; rfl
theorem tcv_high {l : List Nat} {n : Nat} (hl : l.length = n) (hn : 0 < n) (hd : Dig 2 l) (h0 : l.getD (n - 1) 0 = 1) : -((nv 2 (cl l) : Int) + 1) = tcv n (nv 2 l) := by
  have h1 := last_split hl hn
  have h4 := cl_nv hd
  rw [hl] at h4
  have hc : ((2 ^ n : Nat) : Int) = (2 : Int) ^ n := by simp
  have h3 : ¬ 2 * nv 2 l < 2 ^ n := by
    obtain ⟨k, rfl⟩ : ∃ k, n = k + 1 := ⟨n - 1, by omega⟩
    rw [Nat.add_sub_cancel] at h1 h0
    rw [h1, h0, Nat.mul_one, Nat.pow_succ]; omega
  rw [tcv, if_neg h3, ← hc]
  omega
set_option maxRecDepth 100000 in
set_option maxHeartbeats 2000000 in
theorem back_any {B : Nat} {A : Option Addr} {l : List Nat} {n c : Nat} {w : World} (ho : OwnI w B A n c (i64s l)) (hB : B ≤ w.heap.size) (hl : l.length = n) (hn : 0 < n) (hd : Dig 2 l) (hn9 : n ≤ 67108864) {z : Int} (hz : tcv n (nv 2 l) = z) :
    Calls Try.prog 95 #[.slice A n c] w (PostBb w B z) := by
  have HO := Lib.hid ho
  have HL := Lib.hid (And.intro hl hd)
  have hcap := ho.cap
  unfold maxLen at hcap
  have HB := Lib.hid ((Below.refl w.heap.size w).alloc (Nat.le_refl _) (.cells #[.bool false, .slice none 0 0] 28))
  have HX := Lib.hid (show (w.alloc (.cells #[.bool false, .slice none 0 0] 28)).heap[w.heap.size]? = some (.cells #[.bool false, .slice none 0 0] 28 (0, 0)) from heap_alloc_new w _)
  have hsz : w.heap.size < (w.alloc (.cells #[.bool false, .slice none 0 0] 28)).heap.size := by simp
  have hlast := ho.sl hd hl
  obtain ⟨b, off, rfl, hbb, hcell⟩ := SlI.at_ hlast hn
  have HC := Lib.hid (fun w1 (hb : Below w.heap.size w w1) => (Sl.below hlast hb (Nat.le_refl _)))
  have hx := hcell (n - 1) (by omega)
  have hn1 : (n : Int) - 1 = ((n - 1 : Nat) : Int) := by omega
  have hn2 : ((n - 1 : Nat) : Int) < (n : Int) := by omega
  have hxb := hd.getD (b := 2) (by decide) (n - 1)
  by_cases h0 : l.getD (n - 1) 0 = 0
  · have HZ := Lib.hid (show bval false l = z from (tcv_low hl hn hd h0).trans hz)
    rw [h0] at hx
    have hx0 : (w.alloc (.cells #[.bool false, .slice none 0 0] 28)).cell? ⟨b, off + (n - 1), none⟩ = some (.int .i64 0) := ((HB.out.cell (p := ⟨b, off + (n - 1), none⟩) hbb).trans hx)
    clear ho hl hd hcap hlast hcell hx hxb h0 hz HC
    go_enter Try.func95, Try.ntmps95
    go_upto_region 1 with fail
    have HO0 := Lib.hid (HO.out.below HB.out (Nat.le_refl _))
    generalize (w.alloc (.cells #[.bool false, .slice none 0 0] 28)) = W0 at *
    generalize n - 1 = n1 at *
    go_wp2_with fail
    (with_reducible refine (rlaid_at false HO0.out HL.out.1 HL.out.2 HZ.out).mono ?_)
    rintro ex w5 ⟨rfl, ho5, hb5⟩
    obtain ⟨r0, r1, r2, r3⟩ := two_cells hb5 HX.out hsz
    have HO5 := Lib.hid ho5
    have HB5 := Lib.hid (HB.out.trans (hb5.mono HB.out.size))
    have hz5 := hb5.size
    clear ho5 hb5 hx0
    go_wp2
    have hgb : ∀ g, some (⟨b, off, none⟩ : Addr) = some ⟨g, 0, none⟩ → g ≠ w.heap.size := fun g e => by injection e with e; injection e with e1 _ _; omega
    exact bodyPost_ret (v := .agg #[.bool (decide (z < 0)), .slice (some ⟨b, off, none⟩) (digs 2 z.natAbs).length c]) (by simp [results, Try.results95, go_sem, r0, r1]) rfl
      ⟨_, rfl, ⟨_, c, rfl, Own.far (Own.far HO5.out (p := ⟨w.heap.size, 0, none⟩) hgb _) (p := ⟨w.heap.size, 1, none⟩) hgb _⟩, (HB5.out.setCell (Nat.le_refl _) _).setCell (Nat.le_refl _) _⟩
  · have h1 : l.getD (n - 1) 0 = 1 := by omega
    obtain ⟨V, hV⟩ : ∃ V : Int, (nv 2 (cl l) : Int) = V := ⟨_, rfl⟩
    obtain ⟨S, hS⟩ : ∃ S : Int, V + 1 = S := ⟨_, rfl⟩
    have HZ := Lib.hid (show -S = z by rw [← hS, ← hV, ← hz]; exact tcv_high hl hn hd h1)
    have HVb := Lib.hid (show bval false (cl l) = V by rw [← hV]; rfl)
    have HSV := Lib.hid hS
    have HVn := Lib.hid (show (digs 2 V.natAbs).length ≤ n by
      refine digs_length_le (by decide) ?_
      have := cl_nv hd
      rw [hl] at this
      omega)
    rw [h1] at hx
    have hx0 : (w.alloc (.cells #[.bool false, .slice none 0 0] 28)).cell? ⟨b, off + (n - 1), none⟩ = some (.int .i64 1) := ((HB.out.cell (p := ⟨b, off + (n - 1), none⟩) hbb).trans hx)
    have HCl := Lib.hid (fun k (hk : k < n) => cl_snoc l (k := k) (by omega))
    have HCT := Lib.hid (show cl (l.take n) = cl l by rw [List.take_of_length_le (by omega)])
    clear ho hl hd hcap hlast hcell hx hxb h0 hz h1 hS hV
    go_enter Try.func95, Try.ntmps95
    go_upto_region 1 with fail
    generalize (w.alloc (.cells #[.bool false, .slice none 0 0] 28)) = W0 at *
    have HR0 := Lib.hid (OfRel.start W0)
    generalize n - 1 = n1 at *
    go_wp2_with fail
    go_loopw [3, 4] (fun bv iv wr => ∃ i : Nat, i ≤ n ∧ iv = .int .i64 (i : Int) ∧ OfRel W0 (cl (l.take i)) bv wr) (fun _ iv _ => n - (intOf iv).toNat)
    case atStart => exact ⟨0, Nat.zero_le _, rfl, by simpa [cl] using HR0.out⟩
    case round =>
      obtain ⟨i, hi, rfl, A1, n1', c1, rfl, ho1, hl1, hb1⟩ := hrel
      have HO1 := Lib.hid ho1
      have HL1 := Lib.hid hl1
      have HB1 := Lib.hid hb1
      have hz1 := hb1.size
      have HBw := Lib.hid (HB.out.trans (HB1.out.mono HB.out.size))
      have hi0 : (0 : Int) ≤ (i : Int) := by omega
      clear ho1 hl1 hb1 HR0 hx0
      by_cases hin : i < n
      · have hiI : (i : Int) < (n : Int) := by omega
        obtain ⟨b2, off2, e2, _, hc⟩ := SlI.at_ (HC.out wr HBw.out) (by omega)
        have hx := hc i hin
        injection e2 with e2
        injection e2 with e3 e4 _
        subst e3; subst e4
        have hxb := HL.out.2.getD (b := 2) (by decide) i
        have HS := Lib.hid (HCl.out i hin)
        obtain ⟨q, hq⟩ : ∃ q, 1 - l.getD i 0 = q := ⟨_, rfl⟩
        rw [hq] at HS
        generalize l.getD i 0 = x at *
        have hw1 : (1 : Int) - (x : Int) = (q : Int) := by omega
        have hn1 : n1' ≤ 4294967296 := by rw [← HL1.out, cl_length, List.length_take]; omega
        clear hc hq
        go_wp2_with (at_builtin; refine wpList_append_i64 (by rfl) _ _ (by rfl) W0.heap.size A1 n1' c1 (cl (l.take i)) (by rfl) (Own.alloc HO1.out _) wr.heap.size q (by rfl) (by simp [go_sem]) hn1 (by simp; omega) ?_; intro A3 c3 w3 ho3 hb3)
        have HR3 := Lib.hid (show OfRel W0 (cl (l.take (i + 1))) (.slice A3 (n1' + 1) c3) w3 from ⟨A3, n1' + 1, c3, rfl, by rw [HS.out]; exact ho3, by rw [HS.out, List.length_append, HL1.out]; rfl, (HB1.out.alloc (by omega) _).trans hb3⟩)
        clear ho3 hb3
        go_wp2_with fail
        go_roundw
        case rel => exact ⟨i + 1, by omega, by go_num, HR3.out⟩
        case measure => simp [intOf]; omega
      · obtain rfl : i = n := by omega
        have HOn := Lib.hid (show OwnI wr W0.heap.size A1 n1' c1 (i64s (cl l)) by have := HO1.out; rwa [HCT.out] at this)
        have HLn := Lib.hid (show (cl l).length = n1' by have := HL1.out; rwa [HCT.out] at this)
        clear HO1 HL1
        go_wp2_with fail
        (with_reducible refine (rlaid_at false HOn.out HLn.out (cl_dig l) HVb.out).mono ?_)
        rintro ex w5 ⟨rfl, ho5, hb5⟩
        have HO5 := Lib.hid ho5
        have HB5 := Lib.hid (HB1.out.trans (hb5.mono hz1))
        clear ho5 hb5
        go_wp2_with fail
        (refine (Small_any 1 (by decide) _).mono ?_)
        rintro ex w6 ⟨v6, rfl, ⟨A6, c6, rfl, ho6⟩, hb6⟩
        have HO6 := Lib.hid ho6
        have HO56 := Lib.hid (HO5.out.below hb6 (Nat.le_refl _))
        have hz5 := HB5.out.size
        have HB6 := Lib.hid (HB5.out.trans (hb6.mono hz5))
        clear ho6 hb6
        go_wp2_with fail
        (refine (rsum_any (sx := decide (V < 0)) (sy := false) (bits_sl HO56.out) (bits_sl HO6.out) (Nat.le_trans HVn.out (Nat.le_trans hn9 (by decide))) (Nat.le_trans (digs_length_le (b := 2) (k := 1) (by decide) (by decide)) (by decide)) (Nat.le_refl _) (Nat.le_refl _) (nrm_digs (by decide) _) (nrm_digs (by decide) _) (x := V) (y := 1) (bval_digs V) (by have h := bval_digs 1; rw [show decide ((1 : Int) < 0) = false from rfl] at h; exact h) HSV.out).mono ?_)
        rintro ex w7 ⟨v7, rfl, ⟨A7, c7, rfl, ho7⟩, hb7⟩
        have HO7 := Lib.hid ho7
        have hz6 := HB6.out.size
        have HB7 := Lib.hid (HB6.out.trans (hb7.mono hz6))
        clear ho7 hb7
        go_wp2_with fail
        (refine (Minus_w HZ.out (bits_sl HO7.out)).mono ?_)
        rintro ex w8 ⟨rfl, hb8⟩
        have HO8 := Lib.hid (HO7.out.below hb8 (Nat.le_refl _))
        have hz7 := HB7.out.size
        have HB8 := Lib.hid (HB7.out.trans (hb8.mono hz7))
        obtain ⟨r0, r1, r2, r3⟩ := two_cells HB8.out HX.out hsz
        clear hb8
        have HBf := Lib.hid (HB.out.trans (HB8.out.mono HB.out.size))
        have hSz : S.natAbs = z.natAbs := by have := HZ.out; omega
        rw [hSz] at HO8 ⊢
        go_wp2
        have hr := ResB.stored (w := w) (base := w6.heap.size) (g := w.heap.size) (u := .bool (decide (z < 0))) (u' := .slice A7 (digs 2 z.natAbs).length c7) ⟨A7, c7, rfl, HO8.out⟩ HBf.out (by omega) (by omega)
        exact bodyPost_ret (v := .agg #[.bool (decide (z < 0)), .slice A7 (digs 2 z.natAbs).length c7]) (by simp [results, Try.results95, go_sem, r0, r1]) rfl ⟨_, rfl, hr.1.mono hB, hr.2⟩
end Go.Proofs.Ytggdmhkdmkldoaa

namespace Go.Proofs.Ytggdmhkdmkldoaa
open Go.RowKit Hb
set_option linter.unusedVariables false
set_option linter.unusedSimpArgs false

/-! ### Bitwise -/
theorem nv2_bit : ∀ (l : List Nat) (i : Nat), Dig 2 l → (nv 2 l).testBit i = decide (l.getD i 0 = 1)
  | [], i, _ => by simp [nv]
  | x :: l, 0, h => by
    have h1 := h.head
    rw [Nat.testBit_zero, nv_cons]
    show _ = decide (x = 1)
    exact decide_eq_decide.2 (by omega)
  | x :: l, i + 1, h => by
    have h1 := h.head
    have h2 := nv2_bit l i h.tail
    rw [Nat.testBit_succ, nv_cons, show (x + 2 * nv 2 l) / 2 = nv 2 l by omega, h2]
    rfl
theorem high_bit {v k : Nat} (h : v < 2 ^ (k + 1)) : decide (¬ 2 * v < 2 ^ (k + 1)) = v.testBit k := by
  rw [Nat.testBit_eq_decide_div_mod_eq]
  have hp : 0 < 2 ^ k := Nat.pow_pos (by decide)
  rw [Nat.pow_succ] at h ⊢
  by_cases h2 : v < 2 ^ k
  · rw [Nat.div_eq_of_lt h2]
    exact decide_eq_decide.2 (by omega)
  · have h3 : v / 2 ^ k = 1 := Nat.div_eq_of_lt_le (by omega) (by omega)
    rw [h3]
    exact decide_eq_decide.2 (by omega)
theorem tcv_tb {z : Int} {k : Nat} (h : ∀ i, k ≤ i → ib z i = ib z k) : tcv (k + 1) (nv 2 (tb z (k + 1))) = z := by
  have hlt : nv 2 (tb z (k + 1)) < 2 ^ (k + 1) := by have := nv_lt (tb_dig z (k + 1)); rwa [tb_length] at this
  have hb : ∀ i, i < k + 1 → (nv 2 (tb z (k + 1))).testBit i = ib z i := fun i hi => by
    rw [nv2_bit _ _ (tb_dig z (k + 1)), tb_get z _ _ hi]
    cases ib z i <;> rfl
  refine ib_ext fun i => ?_
  rw [ib_tcv hlt]
  by_cases hi : i < k + 1
  · rw [if_pos hi, hb i hi]
  · rw [if_neg hi, high_bit hlt, hb k (by omega), h i (by omega)]
theorem ib_len {x : Int} {k i : Nat} (hk : (digs 2 x.natAbs).length ≤ k) (hi : k ≤ i) : ib x i = ib x k := by
  have h1 := lt_of_digs_length (b := 2) (by decide) hk
  have h2 : ((2 ^ k : Nat) : Int) = (2 : Int) ^ k := by simp
  rw [ib_of_range (K := k) (by omega) (by omega) hi, ib_of_range (K := k) (by omega) (by omega) (Nat.le_refl _)]
theorem bw_stay {f : Bool → Bool → Bool} {x y z : Int} (hz : ∀ i, ib z i = f (ib x i) (ib y i)) {k : Nat} (hx : (digs 2 x.natAbs).length ≤ k) (hy : (digs 2 y.natAbs).length ≤ k) (i : Nat) (hi : k ≤ i) : ib z i = ib z k := by
  rw [hz, hz, ib_len hx hi, ib_len hy hi]
theorem heap4 (w : World) (a b c d : Obj) :
    ((((w.alloc a).alloc b).alloc c).alloc d).heap[w.heap.size]? = some a ∧ ((((w.alloc a).alloc b).alloc c).alloc d).heap[w.heap.size + 1]? = some b ∧ ((((w.alloc a).alloc b).alloc c).alloc d).heap[w.heap.size + 1 + 1]? = some c ∧
    ((((w.alloc a).alloc b).alloc c).alloc d).heap[w.heap.size + 1 + 1 + 1]? = some d ∧ ((((w.alloc a).alloc b).alloc c).alloc d).heap.size = w.heap.size + 4 := by
  have e1 : (w.alloc a).heap.size = w.heap.size + 1 := by simp
  have e2 : ((w.alloc a).alloc b).heap.size = w.heap.size + 2 := by simp
  have e3 : (((w.alloc a).alloc b).alloc c).heap.size = w.heap.size + 3 := by simp
  refine ⟨?_, ?_, ?_, ?_, by simp⟩
  · rw [heap_alloc_old _ _ (by omega), heap_alloc_old _ _ (by omega), heap_alloc_old _ _ (by omega)]; exact heap_alloc_new w a
  · rw [heap_alloc_old _ _ (by omega), heap_alloc_old _ _ (by omega)]; rw [← e1]; exact heap_alloc_new _ b
  · rw [heap_alloc_old _ _ (by omega)]; rw [show w.heap.size + 1 + 1 = w.heap.size + 2 from rfl, ← e2]; exact heap_alloc_new _ c
  · rw [show w.heap.size + 1 + 1 + 1 = w.heap.size + 3 from rfl, ← e3]; exact heap_alloc_new _ d
theorem table_cell {W : World} {g t : Nat} {t0 t1 t2 t3 : Int} (h : W.heap[g]? = some (.cells #[.int .i64 t0, .int .i64 t1, .int .i64 t2, .int .i64 t3] t (0, 0))) (r : Nat) (hr : r < 4) :
    W.cell? ⟨g, r, none⟩ = some (.int .i64 (if r = 0 then t0 else if r = 1 then t1 else if r = 2 then t2 else t3)) := by
  rw [cell_of_row W g r _ t (0, 0) h]
  rcases (by omega : r = 0 ∨ r = 1 ∨ r = 2 ∨ r = 3) with rfl | rfl | rfl | rfl <;> rfl
/-- append of one int, in a hand-ordered region -/
theorem wp_append_i64 {o : Oper} {a : Act} {K : Act → World → Prop} {Q : Exit → Act → World → Prop} {w : World} (s x : Operand)
    (ho : o.op = .call { callee := .builtin .append, args := #[s, x], argTypes := #[26, 26] })
    {base : Nat} {A : Option Addr} {n cp g y : Nat} {l : List Nat} (hs : a.eval s = .slice A n cp) (hown : OwnI w base A n cp (i64s l)) (hx : a.eval x = .slice (some ⟨g, 0, none⟩) 1 1) (hc : w.cell? ⟨g, 0, none⟩ = some (.int .i64 (y : Int))) (hn : n ≤ 4294967296) (hbase : base ≤ w.heap.size)
    (h : ∀ A' c' w', OwnI w' base A' (n + 1) c' (i64s (l ++ [y])) → Below base w w' → K (a.put o.dst (.slice A' (n + 1) c')) w') : o.wp Try.prog a w K Q := by
  obtain ⟨i0, hi, hz0, hz1, hz2⟩ := info_parts infoI
  obtain ⟨v', w', hr, hown', hg, _, hat⟩ := run_append_own_at (P := Try.prog) w base 26 o.type 3 i0 (.int .i64 0) 1 8 Try.underlying26 hi hz0 hz1 hz2 rfl (by decide) _ n (i64s l) hown ⟨g, 0, none⟩ 1 1 [.int .i64 (y : Int)] (by simp) (by
    intro j u hj
    cases j with
    | zero => simp at hj; subst hj; exact hc
    | succ j => simp at hj) (by intro u hu; simp at hu; subst hu; rfl) (by simp [maxLen]; omega) (by omega) hbase
  have hf : ∃ A' c', v' = .slice A' (n + 1) c' := by
    rcases hown'.2 with ⟨h1, h2⟩ | ⟨g', cap, cur, h1, _⟩
    · exact absurd h2 (by simp)
    · exact ⟨_, _, h1⟩
  obtain ⟨A', c', rfl⟩ := hf
  unfold Oper.wp execOp
  simp only [ho, resolve, invoke, builtin, Sem.run_bind, Sem.run_pure, Result.andThen_ok, List.map_toArray, List.map_cons, List.map_nil, hs, hx, hr]
  refine h A' c' w' (by have h3 := hown'; rw [show i64s l ++ [Value.int .i64 (y : Int)] = i64s (l ++ [y]) by simp [i64s]] at h3; exact h3) ⟨hg.os, hg.tape, hg.output, hg.size, fun j hj => hg.block j (by omega) ?_⟩
  rcases Own.form hown with ⟨rfl, _⟩ | ⟨g', rfl, h4, _⟩
  · simp [Value.ownBlock]
  · simp [Value.ownBlock]; omega
set_option maxRecDepth 100000 in
set_option maxHeartbeats 2000000 in
theorem Bitwise_any {f : Bool → Bool → Bool} {t0 t1 t2 t3 : Int} (h0 : t0 = ((f false false).toNat : Int)) (h1 : t1 = ((f false true).toNat : Int)) (h2 : t2 = ((f true false).toNat : Int)) (h3 : t3 = ((f true true).toNat : Int))
    {x y z : Int} {B B' : Nat} {A A' : Option Addr} {c c' : Nat} {w : World} (hs : SlI w B A (digs 2 x.natAbs).length c (digs 2 x.natAbs)) (ht : SlI w B' A' (digs 2 y.natAbs).length c' (digs 2 y.natAbs)) (hB : B ≤ w.heap.size) (hB' : B' ≤ w.heap.size) (hn : (digs 2 x.natAbs).length ≤ 33554432) (hn' : (digs 2 y.natAbs).length ≤ 33554432) (hz : ∀ i, ib z i = f (ib x i) (ib y i)) :
    Calls Try.prog 63 #[.agg #[.bool (decide (x < 0)), .slice A (digs 2 x.natAbs).length c], .agg #[.bool (decide (y < 0)), .slice A' (digs 2 y.natAbs).length c'], .agg #[.int .i64 t0, .int .i64 t1, .int .i64 t2, .int .i64 t3]] w (PostB w z) := by
  obtain ⟨k, hk⟩ : ∃ k, max (digs 2 x.natAbs).length (digs 2 y.natAbs).length = k := ⟨_, rfl⟩
  have hkx : (digs 2 x.natAbs).length ≤ k := by omega
  have hky : (digs 2 y.natAbs).length ≤ k := by omega
  have hk9 : k ≤ 33554432 := by omega
  have HTC := Lib.hid (tcv_tb (bw_stay hz hkx hky))
  have HBt := Lib.hid (fun i => show ∃ r v : Nat, 2 * (ib x i).toNat + (ib y i).toNat = r ∧ r < 4 ∧ (ib z i).toNat = v ∧ (if r = 0 then t0 else if r = 1 then t1 else if r = 2 then t2 else t3) = (v : Int) ∧ v ≤ 1 by
    refine ⟨_, _, rfl, by cases ib x i <;> cases ib y i <;> decide, rfl, ?_, by cases ib z i <;> decide⟩
    rw [hz i, h0, h1, h2, h3]
    cases ib x i <;> cases ib y i <;> rfl)
  have HTx := Lib.hid (fun w1 (hb : Below w.heap.size w w1) => rtwos_any (hs.below (C := w.heap.size) hb hB) (Nat.le_trans hB hb.size) hn (k + 1) (by omega))
  have HTy := Lib.hid (fun w1 (hb : Below w.heap.size w w1) => rtwos_any (ht.below (C := w.heap.size) hb hB') (Nat.le_trans hB' hb.size) hn' (k + 1) (by omega))
  have hmx : max ((digs 2 x.natAbs).length : Int) ((digs 2 y.natAbs).length : Int) = (k : Int) := by omega
  generalize (digs 2 x.natAbs).length = n at *
  generalize (digs 2 y.natAbs).length = n' at *
  generalize decide (x < 0) = sx at *
  generalize decide (y < 0) = sy at *
  have hkI : (k : Int) ≤ 33554432 := by omega
  obtain ⟨e0, e1, e2, e3, e4⟩ := heap4 w (.cells #[.bool sx, .slice A n c] 28) (.cells #[.bool sy, .slice A' n' c'] 28) (.cells #[.int .i64 t0, .int .i64 t1, .int .i64 t2, .int .i64 t3] 70) (.cells #[.bool false, .slice none 0 0] 28)
  have HW := Lib.hid (And.intro e0 (And.intro e1 (And.intro e2 e3)))
  have HB := Lib.hid ((((((Below.refl w.heap.size w).alloc (Nat.le_refl _) (.cells #[.bool sx, .slice A n c] 28)).alloc (by simp) (.cells #[.bool sy, .slice A' n' c'] 28)).alloc (by simp; omega) (.cells #[.int .i64 t0, .int .i64 t1, .int .i64 t2, .int .i64 t3] 70))).alloc (by simp; omega) (.cells #[.bool false, .slice none 0 0] 28))
  clear hs ht hB hB' hn hn' hz h0 h1 h2 h3 hkx hky e0 e1 e2 e3
  go_enter Try.func63, Try.ntmps63
  go_upto_region 1 with fail
  generalize ((((w.alloc (.cells #[.bool sx, .slice A n c] 28)).alloc (.cells #[.bool sy, .slice A' n' c'] 28)).alloc (.cells #[.int .i64 t0, .int .i64 t1, .int .i64 t2, .int .i64 t3] 70)).alloc (.cells #[.bool false, .slice none 0 0] 28)) = W0 at *
  obtain ⟨a0, a1, _, _⟩ := two_cells (C := W0.heap.size) (Below.refl _ _) HW.out.1 (by omega)
  obtain ⟨b0, b1, _, _⟩ := two_cells (C := W0.heap.size) (Below.refl _ _) HW.out.2.1 (by omega)
  go_wp2_with fail
  (refine (HTx.out _ HB.out).mono ?_)
  rintro ex w2 ⟨A2, c2, rfl, ho2, hb2⟩
  have HO2 := Lib.hid ho2
  have HB2 := Lib.hid hb2
  have K2 := Lib.hid (HB.out.trans (hb2.mono HB.out.size))
  have hz2 := hb2.size
  obtain ⟨b0, b1, _, _⟩ := two_cells hb2 HW.out.2.1 (by omega)
  clear ho2 hb2 a0 a1
  go_wp2_with fail
  (refine (HTy.out _ K2.out).mono ?_)
  rintro ex w3 ⟨A3, c3, rfl, ho3, hb3⟩
  have hz3 := hb3.size
  have HO3 := Lib.hid ho3
  have HO23 := Lib.hid (HO2.out.below hb3 (Nat.le_refl _))
  have HB3 := Lib.hid (HB2.out.trans (hb3.mono hz2))
  have K3 := Lib.hid (HB.out.trans (HB3.out.mono HB.out.size))
  clear ho3 hb3 b0 b1 HTx HTy
  have HR0 := Lib.hid (TbRel.start w3 z)
  go_wp2_with fail
  go_loopw [10, 11] (fun bv iv wr => ∃ i : Nat, i ≤ k + 1 ∧ iv = .int .i64 (i : Int) ∧ TbRel w3 z i bv wr) (fun _ iv _ => k + 1 - (intOf iv).toNat)
  case atStart => exact ⟨0, Nat.zero_le _, rfl, HR0.out⟩
  case round =>
    obtain ⟨i, hi, rfl, A1, c1, rfl, ho1, hb1⟩ := hrel
    have HO := Lib.hid ho1
    have HB1 := Lib.hid hb1
    have hz1 := hb1.size
    have hi0 : (0 : Int) ≤ (i : Int) := by omega
    clear ho1 hb1 HR0
    by_cases hik : i < k + 1
    · have hikI : (i : Int) < (k : Int) + 1 := by omega
      obtain ⟨r, v, hr, hr4, hv, htv, hv1⟩ := HBt.out i
      have HT := Lib.hid (show tb z (i + 1) = tb z i ++ [v] by rw [tb, hv])
      obtain ⟨p, hp⟩ : ∃ p, (ib x i).toNat = p := ⟨_, rfl⟩
      obtain ⟨q, hq⟩ : ∃ q, (ib y i).toNat = q := ⟨_, rfl⟩
      obtain ⟨g2, rfl, hg2, hg2'⟩ := HO23.out.at_ (by omega)
      obtain ⟨g3, rfl, hg3, hg3'⟩ := HO3.out.at_ (by omega)
      have hxa := (HO23.out.below HB1.out (Nat.le_refl _)).cell hik
      rw [i64s_get (by rw [tb_length]; exact hik), tb_get x _ _ hik, hp] at hxa
      have hya := (HO3.out.below HB1.out (Nat.le_refl _)).cell hik
      rw [i64s_get (by rw [tb_length]; exact hik), tb_get y _ _ hik, hq] at hya
      have htc := table_cell ((HB1.out.block _ (by omega)).trans ((HB3.out.block _ (by omega)).trans HW.out.2.2.1)) r hr4
      rw [htv] at htc
      rw [hp, hq] at hr
      have hp2 : p ≤ 1 := by rw [← hp]; cases ib x i <;> simp
      have hq2 : q ≤ 1 := by rw [← hq]; cases ib y i <;> simp
      obtain ⟨s, hs⟩ : ∃ s, 2 * p = s := ⟨_, rfl⟩
      have hw1 : IntKind.i64.wrap (2 * (p : Int)) = (s : Int) := by rw [IntWalk.i64_in _ (by omega)]; omega
      have hw2 : IntKind.i64.wrap ((s : Int) + (q : Int)) = (r : Int) := by rw [IntWalk.i64_in _ (by omega)]; omega
      have hr4I : (r : Int) < 4 := by omega
      have hr0I : (0 : Int) ≤ (r : Int) := by omega
      have hi9 : i ≤ 4294967296 := by omega
      clear hr hv htv hp hq hs
      go_wp2_with fail
      have HSS := Lib.hid (fun w' (hb : Below w3.heap.size w3 w') => show (w'.cell? ⟨g2, i, none⟩ = some (.int .i64 (p : Int)) ∧ w'.cell? ⟨g3, i, none⟩ = some (.int .i64 (q : Int)) ∧ w'.cell? ⟨w.heap.size + 1 + 1, r, none⟩ = some (.int .i64 (v : Int))) from
        ⟨(hb.cell (p := ⟨g2, i, none⟩) (by show g2 < _; omega)).trans ((HB1.out.cell (p := ⟨g2, i, none⟩) (by show g2 < _; omega)).symm.trans hxa), (hb.cell (p := ⟨g3, i, none⟩) (by show g3 < _; omega)).trans ((HB1.out.cell (p := ⟨g3, i, none⟩) (by show g3 < _; omega)).symm.trans hya),
          (hb.cell (p := ⟨w.heap.size + 1 + 1, r, none⟩) (by show w.heap.size + 1 + 1 < _; omega)).trans ((HB1.out.cell (p := ⟨w.heap.size + 1 + 1, r, none⟩) (by show w.heap.size + 1 + 1 < _; omega)).symm.trans htc)⟩)
      refine wp_region_wait (fun w' => w'.cell? ⟨g2, i, none⟩ = some (.int .i64 (p : Int)) ∧ w'.cell? ⟨g3, i, none⟩ = some (.int .i64 (q : Int)) ∧ w'.cell? ⟨w.heap.size + 1 + 1, r, none⟩ = some (.int .i64 (v : Int))) 15 (by kernel_rfl) ?_
      change wpAnyW _ _ _ _ _ _ _ _ _ wr.drew
      have HB5 := Lib.hid HB1.out.drew
      have HO5 := Lib.hid (show OwnI wr.drew w3.heap.size A1 i c1 (i64s (tb z i)) from HO.out)
      have hz5 : w3.heap.size ≤ wr.drew.heap.size := hz1
      clear hxa hya htc HO
      generalize wr.drew = w5 at *
      have HSC := Lib.hid (HSS.out _ HB5.out)
      refine wpAnyW_take 15 (i := 0) (v := .slice A1 i c1) rfl (by kernel_rfl) (by kernel_rfl) (by kernel_rfl) (by kernel_rfl) (fun _ _ _ h => h) (Or.inl ⟨by kernel_rfl, fun w5 hSw => by go_simp⟩) HSC.out ?_
      refine wpAnyW_take 15 (i := 1) (v := .slice (some ⟨g2, 0, none⟩) (k + 1) c2) rfl (by kernel_rfl) (by kernel_rfl) (by kernel_rfl) (by kernel_rfl) (fun _ _ _ h => h) (Or.inl ⟨by kernel_rfl, fun w5 hSw => by go_simp⟩) HSC.out ?_
      refine wpAnyW_take 15 (i := 2) (v := .int .i64 (i : Int)) rfl (by kernel_rfl) (by kernel_rfl) (by kernel_rfl) (by kernel_rfl) (fun _ _ _ h => h) (Or.inl ⟨by kernel_rfl, fun w5 hSw => by go_simp⟩) HSC.out ?_
      refine wpAnyW_take 15 (i := 3) (v := .pointer (some ⟨g2, i, none⟩)) rfl (by kernel_rfl) (by kernel_rfl) (by kernel_rfl) (by kernel_rfl) (fun _ _ _ h => h) (Or.inl ⟨by kernel_rfl, fun w5 hSw => by go_simp⟩) HSC.out ?_
      refine wpAnyW_take 15 (i := 4) (v := .int .i64 (p : Int)) rfl (by kernel_rfl) (by kernel_rfl) (by kernel_rfl) (by kernel_rfl) (fun _ _ _ h => h) (Or.inl ⟨by kernel_rfl, fun w5 hSw => by go_simp⟩) HSC.out ?_
      refine wpAnyW_take 15 (i := 5) (v := .int .i64 (s : Int)) rfl (by kernel_rfl) (by kernel_rfl) (by kernel_rfl) (by kernel_rfl) (fun _ _ _ h => h) (Or.inl ⟨by kernel_rfl, fun w5 hSw => by go_simp⟩) HSC.out ?_
      refine wpAnyW_take 15 (i := 6) (v := .slice (some ⟨g3, 0, none⟩) (k + 1) c3) rfl (by kernel_rfl) (by kernel_rfl) (by kernel_rfl) (by kernel_rfl) (fun _ _ _ h => h) (Or.inl ⟨by kernel_rfl, fun w5 hSw => by go_simp⟩) HSC.out ?_
      refine wpAnyW_take 15 (i := 7) (v := .int .i64 (i : Int)) rfl (by kernel_rfl) (by kernel_rfl) (by kernel_rfl) (by kernel_rfl) (fun _ _ _ h => h) (Or.inl ⟨by kernel_rfl, fun w5 hSw => by go_simp⟩) HSC.out ?_
      refine wpAnyW_take 15 (i := 8) (v := .pointer (some ⟨g3, i, none⟩)) rfl (by kernel_rfl) (by kernel_rfl) (by kernel_rfl) (by kernel_rfl) (fun _ _ _ h => h) (Or.inl ⟨by kernel_rfl, fun w5 hSw => by go_simp⟩) HSC.out ?_
      refine wpAnyW_take 15 (i := 9) (v := .int .i64 (q : Int)) rfl (by kernel_rfl) (by kernel_rfl) (by kernel_rfl) (by kernel_rfl) (fun _ _ _ h => h) (Or.inl ⟨by kernel_rfl, fun w5 hSw => by go_simp⟩) HSC.out ?_
      refine wpAnyW_take 15 (i := 10) (v := .int .i64 (r : Int)) rfl (by kernel_rfl) (by kernel_rfl) (by kernel_rfl) (by kernel_rfl) (fun _ _ _ h => h) (Or.inl ⟨by kernel_rfl, fun w5 hSw => by go_simp⟩) HSC.out ?_
      refine wpAnyW_take 15 (i := 11) (v := .pointer (some ⟨w.heap.size + 1 + 1, r, none⟩)) rfl (by kernel_rfl) (by kernel_rfl) (by kernel_rfl) (by kernel_rfl) (fun _ _ _ h => h) (Or.inl ⟨by kernel_rfl, fun w5 hSw => by go_simp⟩) HSC.out ?_
      refine wpAnyW_take 15 (i := 12) (v := .int .i64 (v : Int)) rfl (by kernel_rfl) (by kernel_rfl) (by kernel_rfl) (by kernel_rfl) (fun _ _ _ h => h) (Or.inl ⟨by kernel_rfl, fun w5 hSw => by go_simp⟩) HSC.out ?_
      go_simp
      refine wpAnyW_one (i := 13) (by kernel_rfl) rfl (fun K hK => ?_)
      go_simp
      refine hK.out _ _ (fun _ => HSS.out _ (HB5.out.alloc hz5 _)) ?_
      refine wpAnyW_one (i := 14) (by kernel_rfl) rfl (fun K hK => ?_)
      refine wp_append_i64 _ _ (by rfl) (base := w3.heap.size) (A := A1) (n := i) (cp := c1) (g := w5.heap.size) (y := v) (l := tb z i) (by rfl) (Own.alloc HO5.out _) (by rfl) (by simp [go_sem]) hi9 (by simp; omega) ?_
      intro A4 c4 w6 ho6 hb6
      have HR6 := Lib.hid (show TbRel w3 z (i + 1) (.slice A4 (i + 1) c4) w6 from ⟨A4, c4, rfl, by rw [HT.out]; exact ho6, (HB5.out.alloc hz5 _).trans hb6⟩)
      refine hK.out _ _ (fun _ => HSS.out _ ((HB5.out.alloc hz5 _).trans hb6)) ?_
      refine wpAnyW_one (i := 15) (by kernel_rfl) rfl (fun K hK => ?_)
      go_simp
      refine hK.out _ _ (fun h => absurd h (by simp)) ?_
      refine wpAnyW_done (by kernel_rfl) ?_ _
      clear ho6 hb6
      go_wp2_with fail
      go_roundw
      case rel => exact ⟨i + 1, by omega, by go_num, HR6.out⟩
      case measure => simp [intOf]; omega
    · obtain rfl : i = k + 1 := by omega
      have hX3 : W0.heap[w.heap.size + 1 + 1 + 1]? = some (.cells #[.bool false, .slice none 0 0] 28 (0, 0)) := HW.out.2.2.2
      have HXr := Lib.hid ((HB3.out.block _ (by omega)).trans hX3)
      have hg9 : w.heap.size + 1 + 1 + 1 < w3.heap.size := by omega
      go_wp2_with fail
      (refine (back_any (B := w3.heap.size) HO.out hz1 (tb_length z _) (by omega) (tb_dig z _) (by omega) HTC.out).mono ?_)
      rintro ex w7 ⟨v7, rfl, ⟨A7, c7, rfl, ho7⟩, hb7⟩
      obtain ⟨r0, r1, r2, r3⟩ := two_cells (HB1.out.trans (hb7.mono hz1)) HXr.out hg9
      have HO7 := Lib.hid ho7
      have HB7 := Lib.hid (K3.out.trans ((HB1.out.trans (hb7.mono hz1)).mono (by omega)))
      clear ho7 hb7
      go_wp2
      have hr := ResB.stored (w := w) (base := w3.heap.size) (g := w.heap.size + 1 + 1 + 1) (u := .bool (decide (z < 0))) (u' := .slice A7 (digs 2 z.natAbs).length c7) ⟨A7, c7, rfl, HO7.out⟩ HB7.out (by omega) (by omega)
      exact bodyPost_ret (v := .agg #[.bool (decide (z < 0)), .slice A7 (digs 2 z.natAbs).length c7]) (by simp [results, Try.results63, go_sem, r0, r1]) rfl ⟨_, rfl, hr.1, hr.2⟩
end Go.Proofs.Ytggdmhkdmkldoaa
