import Derived.Test.YtpikjceodmepiaaGreatDoorYbcb
import Derived.Test.YtpikjceodmepiaaGreatDoorFlb
set_option linter.unusedVariables false
set_option linter.unusedSimpArgs false
namespace Go.Proofs.YtpikjceodmepiaaGreatDoor
open Go.RowKit Hb Hf
set_option linter.unusedVariables false
set_option linter.unusedSimpArgs false
attribute [local go_sem ↓] Go.wp_at_zero Go.wp_at_succ
/-! ### limb -/
theorem getD_out' {l : List Nat} {k : Nat} (h : l.length ≤ k) : l.getD k 0 = 0 := by
  rw [List.getD_eq_getElem?_getD, List.getElem?_eq_none h]; rfl
set_option maxHeartbeats 400000 in
theorem limb_any {B : Nat} {A : Option Addr} {l : List Nat} {n c : Nat} {w : World} (hs : SlU w B A n c l) (k : Nat) (hk : k < 4611686018427387904) :
    Calls Tryz.prog 85 #[.slice A n c, .int .i64 (k : Int)] w fun e w' => e = .returned (.int .u64 ((l.getD k 0 : Nat) : Int)) ∧ w = w' := by
  have hb := hs.dig.getD (by decide) k
  have hlen := hs.len
  have hm := Nat.le_trans hs.cap hs.max
  unfold maxLen at hm
  by_cases h : k < n
  · obtain ⟨b, o, rfl, _, hcell⟩ := hs.at_ (by omega)
    have hx := hcell k h
    generalize l.getD k 0 = x at *
    have h1 : (k : Int) < (n : Int) := by omega
    have h0 : (0 : Int) ≤ (k : Int) := by omega
    have HV := Lib.hid (show IntKind.u64.wrap (x : Int) = (x : Int) from IntWalk.u64_in _ (by omega))
    clear hs hcell hlen
    go_enter Tryz.func85, Tryz.ntmps85
    go_wp2
    go_ret
    first | exact ⟨rfl, rfl⟩ | exact ⟨by rw [HV.out]; rfl, rfl⟩
  · have hz := getD_out' (l := l) (k := k) (by omega)
    rw [hz]
    have h1 : ¬ (k : Int) < (n : Int) := by omega
    clear hs hlen hz hb
    go_enter Tryz.func85, Tryz.ntmps85
    go_wp2
    go_ret
    exact ⟨rfl, rfl⟩
/-! ### the loops of plus -/
/-- out's block, of N limbs, behind k rounds -/
structure PBlk (w : World) (G N k : Nat) (o : List Nat) (wr : World) : Prop where
  len : o.length = k
  dig : Dig W o
  own : OwnU wr G (some ⟨G, 0, none⟩) N N (u32s (o ++ List.replicate (N - k) 0))
  bel : Below G w wr
theorem PBlk.facts {w wr : World} {G N k : Nat} {o : List Nat} (h : PBlk w G N k o wr) (hk : k < N) : (∃ u, wr.cell? ⟨G, k, none⟩ = some u) ∧ wr.frozen? ⟨G, k, none⟩ = false := by
  have h1 := h.own.cell (j := k) (by omega)
  have h2 := h.own.length
  rw [List.getElem?_eq_getElem (by omega)] at h1
  exact ⟨⟨_, h1⟩, h.own.frozen k⟩
theorem PBlk.drewN {w wr : World} {G N k : Nat} {o : List Nat} (h : PBlk w G N k o wr) (m : Nat) : PBlk w G N k o (wr.drewN m) := ⟨h.len, h.dig, h.own, belowN h.bel m⟩
theorem PBlk.step {w wr : World} {G N k : Nat} {o : List Nat} (h : PBlk w G N k o wr) (hk : k < N) {t : Nat} (ht : t < 4294967296) : PBlk w G N (k + 1) (o ++ [t]) (wr.setCell ⟨G, k, none⟩ (.int .u32 (t : Int))) := by
  refine ⟨by simp [h.len], h.dig.append (Dig.cons ht (Dig.nil _)), ?_, h.bel.setCell (Nat.le_refl _) _⟩
  have := h.own.set_ k (.int .u32 (t : Int))
  rw [u32s_set, set_zeros' h.len (by omega)] at this
  exact this
theorem PBlk.start {w w1 : World} {N : Nat} (hN : N ≤ maxLen) (hb : Below w1.heap.size w w1) : PBlk w w1.heap.size N 0 [] (w1.alloc (.cells (madeCells #[.int .u32 0] N) 101)) := by
  refine ⟨rfl, Dig.nil _, ?_, hb.alloc (Nat.le_refl _) _⟩
  have := Own.made w1 (.int .u32 0) N 101 (B := w1.heap.size) (Nat.le_refl _) hN
  rw [u32s_zeros] at this
  simpa using this
theorem PBlk.full {w wr : World} {G N : Nat} {o : List Nat} (h : PBlk w G N N o wr) : OwnU wr G (some ⟨G, 0, none⟩) N N (u32s o) := by
  have := h.own
  rwa [Nat.sub_self, List.replicate_zero, List.append_nil] at this
theorem PBlk.rebase {w wr w5 : World} {G N k : Nat} {o : List Nat} (h : PBlk w G N k o wr) (hb : w5.heap[G]? = wr.heap[G]?) : PBlk w5 G N k o w5 := by
  refine ⟨h.len, h.dig, ⟨h.own.1, ?_⟩, Below.refl _ _⟩
  rcases h.own.2 with h1 | ⟨g, cap, cur, h1, h2, h3, h4⟩
  · exact .inl h1
  · obtain rfl : g = G := by injection h1 with a; injection a with a; injection a with a; exact a.symm
    exact .inr ⟨g, cap, cur, h1, h2, hb.trans h3, h4⟩
/-- sums -/
def PAdd (w : World) (G : Nat) (l m : List Nat) (N k : Nat) (cv : Value) (wr : World) : Prop :=
  ∃ (o : List Nat) (c : Nat), cv = .int .u64 (c : Int) ∧ c ≤ 1 ∧ nv W o + W ^ k * c = nvp W l k + nvp W m k ∧ PBlk w G N k o wr
/-- differences -/
def PSub (w : World) (G : Nat) (l m : List Nat) (N k : Nat) (cv : Value) (wr : World) : Prop :=
  ∃ (o : List Nat) (c : Nat), cv = .int .u64 (c : Int) ∧ c ≤ 1 ∧ nv W o + nvp W m k = nvp W l k + W ^ k * c ∧ PBlk w G N k o wr
theorem PAdd.step {w wr : World} {G : Nat} {l m : List Nat} {N k c x y : Nat} {o : List Nat} (hc : c ≤ 1) (hv : nv W o + W ^ k * c = nvp W l k + nvp W m k) (hb : PBlk w G N k o wr) (hk : k < N) (hx : l.getD k 0 = x) (hy : m.getD k 0 = y) (h1 : x < 4294967296) (h2 : y < 4294967296) :
    PAdd w G l m N (k + 1) (.int .u64 (((x + y + c) / 4294967296 : Nat) : Int)) (wr.setCell ⟨G, k, none⟩ (.int .u32 (((x + y + c) % 4294967296 : Nat) : Int))) := by
  subst hx; subst hy
  refine ⟨_, _, rfl, by omega, ?_, hb.step hk (Nat.mod_lt _ (by decide))⟩
  rw [nv_snoc, nvp_succ, nvp_succ, hb.len]
  exact add_step hv
def bw (x y c : Nat) : Nat := if x < y + c then 1 else 0
theorem bw_spec (x y c : Nat) : (x < y + c ∧ bw x y c = 1) ∨ (y + c ≤ x ∧ bw x y c = 0) := by
  unfold bw
  by_cases h : x < y + c
  · exact .inl ⟨h, if_pos h⟩
  · exact .inr ⟨by omega, if_neg h⟩
theorem PSub.step {w wr : World} {G : Nat} {l m : List Nat} {N k c x y : Nat} {o : List Nat} (hc : c ≤ 1) (hv : nv W o + nvp W m k = nvp W l k + W ^ k * c) (hb : PBlk w G N k o wr) (hk : k < N) (hx : l.getD k 0 = x) (hy : m.getD k 0 = y) (h1 : x < 4294967296) (h2 : y < 4294967296) :
    PSub w G l m N (k + 1) (.int .u64 ((bw x y c : Nat) : Int)) (wr.setCell ⟨G, k, none⟩ (.int .u32 (((x + 4294967296 - y - c) % 4294967296 : Nat) : Int))) := by
  subst hx; subst hy
  have hs := bw_spec (l.getD k 0) (m.getD k 0) c
  refine ⟨_, _, rfl, by omega, ?_, hb.step hk (Nat.mod_lt _ (by decide))⟩
  rw [nv_snoc, nvp_succ, nvp_succ, hb.len]
  refine sub_step hv ?_
  show (l.getD k 0 + 4294967296 - m.getD k 0 - c) % 4294967296 + m.getD k 0 + c = l.getD k 0 + 4294967296 * bw (l.getD k 0) (m.getD k 0) c
  omega
theorem no_carry {X Y a b d c : Nat} (hY : X * 2 ≤ Y) (h1 : a < X) (h2 : b < X) (hv : d + Y * c = a + b) (hc : c ≤ 1) : d = a + b := by
  rcases Nat.eq_zero_or_pos c with h | h
  · subst h; omega
  · obtain rfl : c = 1 := by omega
    rw [Nat.mul_one] at hv
    omega
theorem PAdd.end_ {w wr : World} {G : Nat} {l m : List Nat} {N : Nat} {cv : Value} (h : PAdd w G l m N N cv wr) (hl : l.length < N) (hm : m.length < N) (dl : Dig W l) (dm : Dig W m) : ∃ o, PBlk w G N N o wr ∧ nv W o = nv W l + nv W m := by
  obtain ⟨o, c, _, hc, hv, hb⟩ := h
  rw [nvp_all (Nat.le_of_lt hl), nvp_all (Nat.le_of_lt hm)] at hv
  have h1 : nv W l < W ^ (N - 1) := Nat.lt_of_lt_of_le (nv_lt dl) (Nat.pow_le_pow_right (by decide) (by omega))
  have h2 : nv W m < W ^ (N - 1) := Nat.lt_of_lt_of_le (nv_lt dm) (Nat.pow_le_pow_right (by decide) (by omega))
  refine ⟨o, hb, no_carry ?_ h1 h2 hv hc⟩
  have e : W ^ N = W ^ (N - 1) * W := by rw [← Nat.pow_succ]; congr 1; omega
  rw [e]
  exact Nat.mul_le_mul_left _ (by decide)
theorem PSub.end_ {w wr : World} {G : Nat} {l m : List Nat} {N : Nat} {cv : Value} (h : PSub w G l m N N cv wr) (hl : l.length < N) (hm : m.length < N) (hle : nv W m ≤ nv W l) : ∃ o, PBlk w G N N o wr ∧ nv W o = nv W l - nv W m := by
  obtain ⟨o, c, _, hc, hv, hb⟩ := h
  rw [nvp_all (Nat.le_of_lt hl), nvp_all (Nat.le_of_lt hm)] at hv
  have hlt := nv_lt hb.dig
  rw [hb.len] at hlt
  refine ⟨o, hb, ?_⟩
  rcases Nat.eq_zero_or_pos c with h | h
  · subst h; omega
  · obtain rfl : c = 1 := by omega
    rw [Nat.mul_one] at hv
    omega
/-- a box of an integer -/
def IBox (w : World) (g : Nat) (x : Bool) (y : Value) : Prop := w.heap[g]? = some (.cells #[.bool x, y] 56 (0, 0))
section
variable {w w' : World} {g : Nat} {x : Bool} {y : Value}
theorem IBox.lt (h : IBox w g x y) : g < w.heap.size := (Array.getElem?_eq_some_iff.1 h).1
theorem IBox.below (h : IBox w g x y) (hb : Below w.heap.size w w') : IBox w' g x y := (hb.block g h.lt).trans h
theorem IBox.cells (h : IBox w g x y) : w.cell? ⟨g, 0, none⟩ = some (.bool x) ∧ w.cell? ⟨g, 1, none⟩ = some y := by
  refine ⟨?_, ?_⟩ <;> (rw [cell_of_row w g _ _ _ (0, 0) h]; rfl)
theorem IBox.frozens (h : IBox w g x y) : w.frozen? ⟨g, 0, none⟩ = false ∧ w.frozen? ⟨g, 1, none⟩ = false := by
  unfold IBox at h; simp [World.frozen?, h]
theorem IBox.gro {N : Nat} (h : IBox w g x y) (hg : w.grownBy w' (some N)) (hn : g ≠ N) : IBox w' g x y := (hg.block g h.lt (fun e => by injection e with e; exact hn e)).trans h
theorem IBox.set2 (h : IBox w g x y) (x' : Bool) (y' : Value) : IBox ((w.setCell ⟨g, 0, none⟩ (.bool x')).setCell ⟨g, 1, none⟩ y') g x' y' ∧ w.grownBy ((w.setCell ⟨g, 0, none⟩ (.bool x')).setCell ⟨g, 1, none⟩ y') (some g) := by
  refine ⟨?_, gb_setCell (gb_setCell (gb_refl _ _) _ _) _ _⟩
  unfold IBox at h ⊢
  simp [World.setCell, Array.getElem?_modify, h]
end
end Go.Proofs.YtpikjceodmepiaaGreatDoor

