import Derived.Test.YtggdmhkdmkldoaaBv
import Derived.Test.YtggdmhkdmkldoaaReg
namespace Go.Proofs.Ytggdmhkdmkldoaa
open Go.RowKit Hb

/-- quotient and remainder, cut downwards -/
def dvC (x y : Int) : Bool := decide (x.tmod y ≠ 0) && decide (decide (x.tmod y < 0) ≠ decide (y < 0))
def dvD (x y : Int) : Int := if dvC x y then x.tdiv y + -1 else x.tdiv y
def dvM (x y : Int) : Int := if dvC x y then x.tmod y + y else x.tmod y
def dvCode (lg : Bool) (x y : Int) : Int := if lg then 10 else if y = 0 then 11 else if tooLong (dvD x y) then 10 else 0

theorem sign_own {B' : Nat} {A' : Option Addr} {c' : Nat} {y : Int} {w : World} (ho : OwnU w B' A' (digs W y.natAbs).length c' (u32s (digs W y.natAbs))) :
    Calls Try.prog 42 #[.agg #[.bool (decide (y < 0)), .slice A' (digs W y.natAbs).length c']] w fun e w' => e = .returned (.int .i64 y.sign) ∧ Below w.heap.size w w' := by
  have := sign_any (decide (y < 0)) (ho.sl (dig_digs (by decide) _) rfl) (Nat.le_refl _)
  rwa [ival_digs] at this
theorem sum_raw (nb : Bool) {B B' : Nat} {A A' : Option Addr} {m : List Nat} {n' c c' : Nat} {x : Int} {w : World} (h1 : OwnU w B A (digs W x.natAbs).length c (u32s (digs W x.natAbs))) (hl1 : (digs W x.natAbs).length ≤ 67108864)
    (ht : SlU w B' A' n' c' m) (hB' : B' ≤ w.heap.size) (hn' : n' ≤ 67108864) {Z : Int} (hZ : x + ival nb m = Z) :
    Calls Try.prog 72 #[.agg #[.bool (decide (x < 0)), .slice A (digs W x.natAbs).length c], .agg #[.bool nb, .slice A' n' c']] w (PostI w Z) := by
  have := sum_any (decide (x < 0)) nb (h1.sl (dig_digs (by decide) _) rfl) ht hl1 hn' (Nat.le_refl _) hB'
  rw [ival_digs, hZ] at this
  exact this
theorem sum_own2 {B B' : Nat} {A A' : Option Addr} {c c' : Nat} {x y : Int} {w : World} (h1 : OwnU w B A (digs W x.natAbs).length c (u32s (digs W x.natAbs))) (hl1 : (digs W x.natAbs).length ≤ 67108864)
    (ho : OwnU w B' A' (digs W y.natAbs).length c' (u32s (digs W y.natAbs))) (hl : (digs W y.natAbs).length ≤ 67108864) {Z : Int} (hZ : x + y = Z) :
    Calls Try.prog 72 #[.agg #[.bool (decide (x < 0)), .slice A (digs W x.natAbs).length c], .agg #[.bool (decide (y < 0)), .slice A' (digs W y.natAbs).length c']] w (PostI w Z) := by
  have := sum_any (decide (x < 0)) (decide (y < 0)) (h1.sl (dig_digs (by decide) _) rfl) (ho.sl (dig_digs (by decide) _) rfl) hl1 hl (Nat.le_refl _) (Nat.le_refl _)
  rw [ival_digs, ival_digs, hZ] at this
  exact this
theorem from_at {m1 : Int} (w : World) (h : m1 = -1) : Calls Try.prog 38 #[.int .i64 (-1)] w (PostI w m1) := by
  subst h
  exact from_any (-1) w (by decide) (by decide)
/-! ### a variable of two cells -/
def Bx (w : World) (g : Nat) (x y : Value) : Prop := w.heap[g]? = some (.cells #[x, y] 24 (0, 0))
section
variable {w w' : World} {C g : Nat} {x y u v : Value} {p : Addr}
theorem Bx.below (h : Bx w g x y) (hb : Below C w w') (hg : g < C) : Bx w' g x y := (hb.block g hg).trans h
theorem Bx.facts (h : Bx w g x y) : w.cell? ⟨g, 0, none⟩ = some x ∧ w.cell? ⟨g, 1, none⟩ = some y ∧ w.frozen? ⟨g, 0, none⟩ = false ∧ w.frozen? ⟨g, 1, none⟩ = false :=
  two_cells (Below.refl (g + 1) w) h (by omega)
theorem Bx.lt (h : Bx w g x y) : g < w.heap.size := (Array.getElem?_eq_some_iff.1 h).1
theorem Bx.far (h : Bx w g x y) (hp : g ≠ p.block) (u : Value) : Bx (w.setCell p u) g x y := (Below.heap_setCell w p u g hp).trans h
theorem Bx.set (h : Bx w g x y) (u v : Value) : Bx ((w.setCell ⟨g, 0, none⟩ u).setCell ⟨g, 1, none⟩ v) g u v := by
  unfold Bx at h ⊢
  simp [World.setCell, Array.getElem?_modify, h]
theorem Bx.set0 (h : Bx w g x y) (u : Value) : Bx (w.setCell ⟨g, 0, none⟩ u) g u y := by
  unfold Bx at h ⊢
  simp [World.setCell, Array.getElem?_modify, h]
theorem Bx.set1 (h : Bx w g x y) (v : Value) : Bx (w.setCell ⟨g, 1, none⟩ v) g x v := by
  unfold Bx at h ⊢
  simp [World.setCell, Array.getElem?_modify, h]
theorem Bx.drew (h : Bx w g x y) : Bx w.drew g x y := h
theorem Bx.alloc (h : Bx w g x y) (o : Obj) : Bx (w.alloc o) g x y := by
  have := h.lt
  unfold Bx at h ⊢
  rw [World.alloc]
  simp only [Array.getElem?_push]
  rw [if_neg (by omega)]; exact h
theorem Bx.new (w : World) (x y : Value) : Bx (w.alloc (.cells #[x, y] 24)) w.heap.size x y := heap_alloc_new w _
end
theorem Own.farB {t : TypeId} {w : World} {B n c : Nat} {A : Option Addr} {xs : List Value} {p : Addr} (h : Own t w B A n c xs) (hp : p.block < B) (u : Value) : Own t (w.setCell p u) B A n c xs := by
  refine h.far ?_ u
  intro g' hA
  rcases h.form with ⟨h1, _⟩ | ⟨g2, h1, h2, _⟩
  · rw [h1] at hA; cases hA
  · rw [h1] at hA
    injection hA with hA
    injection hA with hA
    omega
theorem Own.far4 {t : TypeId} {w : World} {B n c g k : Nat} {A : Option Addr} {xs : List Value} (h : Own t w B A n c xs) (hg : g < B) (hk : k < B) (u1 u2 u3 u4 : Value) :
    Own t ((((w.setCell ⟨g, 0, none⟩ u1).setCell ⟨g, 1, none⟩ u2).setCell ⟨k, 0, none⟩ u3).setCell ⟨k, 1, none⟩ u4) B A n c xs :=
  Own.farB (Own.farB (Own.farB (Own.farB h hg u1) hg u2) hk u3) hk u4
/-- long over one integer of the call's own -/
theorem long_at {w : World} {B g : Nat} {A : Option Addr} {c : Nat} {z : Int} (ho : OwnU w B A (digs W z.natAbs).length c (u32s (digs W z.natAbs))) (hl : (digs W z.natAbs).length ≤ 67108864) (hg : w.heap.size = g) :
    Calls Try.prog 69 #[.slice (some ⟨g, 0, none⟩) 1 1] (w.alloc (.cells #[.bool (decide (z < 0)), .slice A (digs W z.natAbs).length c] 24)) (LongPost (tooLong z) (w.alloc (.cells #[.bool (decide (z < 0)), .slice A (digs W z.natAbs).length c] 24))) := by
  subst hg
  have hf := (Bx.new w (.bool (decide (z < 0))) (.slice A (digs W z.natAbs).length c)).facts
  have := long1_any (neg := decide (z < 0)) ((ho.sl (dig_digs (by decide) _) rfl).below (Below.refl w.heap.size w |>.alloc (Nat.le_refl _) (.cells #[.bool (decide (z < 0)), .slice A (digs W z.natAbs).length c] 24)) (Nat.le_refl _)) hl (by simp) hf.1 hf.2.1
  rw [lng_digs] at this
  exact this

theorem tdiv_len {x y : Int} {k : Nat} (h : x.natAbs < W ^ k) : (digs W (x.tdiv y).natAbs).length ≤ k := by
  refine digs_length_le (by decide) ?_
  rw [Int.natAbs_tdiv]
  exact Nat.lt_of_le_of_lt (Nat.div_le_self _ _) h
theorem tmod_len {x y : Int} {k : Nat} (h : x.natAbs < W ^ k) : (digs W (x.tmod y).natAbs).length ≤ k := by
  refine digs_length_le (by decide) ?_
  rw [Int.natAbs_tmod]
  exact Nat.lt_of_le_of_lt (Nat.mod_le _ _) h
theorem m1_lt {k : Nat} (h : 0 < k) : (-1 : Int).natAbs < W ^ k := Nat.one_lt_pow (by omega) (by decide)
theorem lt_of_len {x : Int} {k : Nat} (h : (digs W x.natAbs).length ≤ k) : x.natAbs < W ^ k := lt_of_digs_length (by decide) h
theorem Apart.of_blocks {A1 A2 : Option Addr} {b1 b2 : Bool} {k1 c1 k2 c2 B1 B2 n1 n2 d1 d2 : Nat} {w w' : World} {l1 l2 : List Value} (h1 : OwnU w B1 A1 n1 d1 l1) (h2 : OwnU w' B2 A2 n2 d2 l2) (hB : w.heap.size ≤ B2) : Apart (.agg #[.bool b1, .slice A1 k1 c1]) (.agg #[.bool b2, .slice A2 k2 c2]) := by
  refine ResI.apart (Own.mono h1 (Nat.zero_le _)) (Own.mono h2 (Nat.zero_le _)) ?_
  rcases h1.form with ⟨h3, _⟩ | ⟨g1, h3, _, h5⟩
  · exact .inl h3
  · refine .inr ?_
    rcases h2.form with ⟨h4, _⟩ | ⟨g2, h4, h6, _⟩
    · rw [h3, h4]; simp
    · rw [h3, h4]
      intro e
      injection e with e
      injection e with e
      omega
theorem QRPost.drew {w w' : World} {z1 z2 co : Int} {e : Ending} (h : QRPost w z1 z2 co e w') : QRPost w z1 z2 co e w'.drew := by
  obtain ⟨v1, v2, h1, h2, h3, h4⟩ := h
  exact ⟨v1, v2, h1, fun h => ⟨(h2 h).1, (h2 h).2.1, (h2 h).2.2⟩, h3, h4.drew⟩
/-- two integers of the call's own, stored into two variables of its own in either order -/
theorem QRPost.fin4 {w w2 w3 : World} {B1 B2 g h c1 c2 : Nat} {A1 A2 : Option Addr} {z1 z2 co : Int} (hco : co = 0) (h1 : OwnU w2 B1 A1 (digs W z1.natAbs).length c1 (u32s (digs W z1.natAbs))) (h2 : OwnU w2 B2 A2 (digs W z2.natAbs).length c2 (u32s (digs W z2.natAbs))) (h12 : B1 ≤ B2)
    (ha : Apart (.agg #[.bool (decide (z1 < 0)), .slice A1 (digs W z1.natAbs).length c1]) (.agg #[.bool (decide (z2 < 0)), .slice A2 (digs W z2.natAbs).length c2])) (hb : Below w.heap.size w w2)
    (hg : g < B1) (hh : h < B1) (hwg : w.heap.size ≤ g) (hwh : w.heap.size ≤ h)
    (h3 : ∃ p q r s : Value, w3 = ((((w2.setCell ⟨g, 0, none⟩ p).setCell ⟨g, 1, none⟩ q).setCell ⟨h, 0, none⟩ r).setCell ⟨h, 1, none⟩ s)) :
    QRPost w z1 z2 co (.returned (.tuple #[.agg #[.bool (decide (z1 < 0)), .slice A1 (digs W z1.natAbs).length c1], .agg #[.bool (decide (z2 < 0)), .slice A2 (digs W z2.natAbs).length c2], .int .i64 0])) w3 := by
  obtain ⟨p, q, r, s, rfl⟩ := h3
  exact QRPost.ok hco ⟨_, _, rfl, h1⟩ ⟨_, _, rfl, Own.mono h2 h12⟩ ha hb hg hh hwg hwh
set_option maxRecDepth 100000 in
set_option maxHeartbeats 4000000 in
theorem DivMod_turn (na nb : Bool) {B B' : Nat} {A A' : Option Addr} {l m : List Nat} {n c n' c' : Nat} {w : World} (hs : SlU w B A n c l) (ht : SlU w B' A' n' c' m) (hn : n ≤ 67108860) (hn' : n' ≤ 67108860) (hB : B ≤ w.heap.size) (hB' : B' ≤ w.heap.size)
    (h10 : (lng l || lng m) = false) (h11 : ival nb m ≠ 0) (hC : dvC (ival na l) (ival nb m) = true) :
    Calls Try.prog 21 #[.agg #[.bool na, .slice A n c], .agg #[.bool nb, .slice A' n' c']] w (QRPost w (dvD (ival na l) (ival nb m)) (dvM (ival na l) (ival nb m)) (dvCode (lng l || lng m) (ival na l) (ival nb m))) := by
  have HQ := Lib.hid (fun w1 (hb : Below w.heap.size w w1) => QuoRem_any na nb (hs.below (C := w.heap.size) hb hB) (ht.below (C := w.heap.size) hb hB') (by omega) (by omega) (Nat.le_trans hB hb.size) (Nat.le_trans hB' hb.size))
  rw [h10] at HQ
  have HB := Lib.hid (Below.refl w.heap.size w)
  have HX := Lib.hid h11
  have HSb0 := Lib.hid (fun w1 (hb : Below w.heap.size w w1) => sign_any nb (ht.below (C := w.heap.size) hb hB') (Nat.le_trans hB' hb.size))
  have HLn := Lib.hid (And.intro hs.len (And.intro hs.dig (And.intro ht.len ht.dig)))
  have HSm0 := Lib.hid (fun w1 (hb : Below w.heap.size w w1) => And.intro (ht.below (C := w.heap.size) hb hB') (Nat.le_trans hB' hb.size))
  have hsr : ((ival na l).tmod (ival nb m)).sign != 0 := by
    rw [bne_iff_ne]; intro e
    have := Int.sign_eq_zero_iff_zero.1 e
    simp [dvC, this] at hC
  have hne : (decide ((ival na l).tmod (ival nb m) < 0) == decide (ival nb m < 0)) = false := by
    rw [beq_eq_false_iff_ne]
    intro e
    simp [dvC, e] at hC
  have hsgn : decide ((ival nb m).sign < 0) = decide (ival nb m < 0) := decide_eq_decide.2 Int.sign_neg_iff
  generalize hco : (if false = true then (10 : Int) else if ival nb m = 0 then 11 else 0) = co at *
  obtain rfl : co = 0 := by rw [← hco, if_neg (by simp), if_neg h11]
  have HN := Lib.hid (And.intro hn hn')
  have HLZ := Lib.hid (And.intro (tdiv_len (y := ival nb m) (ival_lt (neg := na) hs.dig (Nat.le_of_eq hs.len))) (tmod_len (y := ival nb m) (ival_lt (neg := na) hs.dig (Nat.le_of_eq hs.len))))
  have HLY := Lib.hid (ival_lt (neg := nb) ht.dig (Nat.le_of_eq ht.len))
  obtain ⟨m1, hm1⟩ : ∃ m1 : Int, m1 = -1 := ⟨_, rfl⟩
  have HF := Lib.hid (fun w5 => from_at w5 hm1)
  have HM1 := Lib.hid hm1
  have HDe := Lib.hid (show dvD (ival na l) (ival nb m) = (ival na l).tdiv (ival nb m) + m1 by rw [dvD, if_pos hC, hm1])
  have HMe := Lib.hid (show dvM (ival na l) (ival nb m) = (ival na l).tmod (ival nb m) + ival nb m by rw [dvM, if_pos hC])
  have HCe := Lib.hid (show dvCode (lng l || lng m) (ival na l) (ival nb m) = err (tooLong (dvD (ival na l) (ival nb m))) by rw [dvCode, h10, if_neg (by simp), if_neg h11]; rfl)
  clear hco h11 h10 hC hs ht hn hn' hB hB' hm1
  generalize dvCode (lng l || lng m) (ival na l) (ival nb m) = co at *
  generalize dvD (ival na l) (ival nb m) = D at *
  generalize dvM (ival na l) (ival nb m) = M at *
  go_enter Try.func21, Try.ntmps21
  go_wp2_with fail
  refine (HQ.out _ ?_).mono ?_
  · exact ((((HB.out.alloc (Nat.le_refl _) _).alloc (by first | omega | (simp; done) | (simp; omega)) _).alloc (by first | omega | (simp; done) | (simp; omega)) _).alloc (by first | omega | (simp; done) | (simp; omega)) _)
  rintro ex w1 ⟨v1, v2, rfl, hr, _, hb1⟩
  obtain ⟨⟨A1, c1, rfl, ho1⟩, ⟨A2, c2, rfl, ho2⟩, hap⟩ := hr rfl
  generalize (ival na l).tdiv (ival nb m) = Z1 at *
  generalize (ival na l).tmod (ival nb m) = Z2 at *
  have HO := Lib.hid (And.intro ho1 ho2)
  have q0 := (hb1.cell (p := ⟨w.heap.size + 1, 0, none⟩) (by first | omega | (simp; done) | (simp; omega))).trans (by simp [go_sem] : _ = some (.bool nb))
  have q1 := (hb1.cell (p := ⟨w.heap.size + 1, 1, none⟩) (by first | omega | (simp; done) | (simp; omega))).trans (by simp [go_sem] : _ = some (.slice A' n' c'))
  have hz1 := hb1.size
  simp at hz1
  have H1 := Lib.hid hb1
  have HBx := Lib.hid (And.intro (Bx.below (g := w.heap.size + 1 + 1) (x := .bool false) (y := .slice none 0 0) (by have := Bx.new (((w.alloc (.cells #[.bool na, .slice A n c] 24)).alloc (.cells #[.bool nb, .slice A' n' c'] 24))) (.bool false) (.slice none 0 0); simp only [World.size_alloc] at this; exact this.alloc _) hb1 (by simp)) (Bx.below (g := w.heap.size + 1 + 1 + 1) (x := .bool false) (y := .slice none 0 0) (by have := Bx.new ((((w.alloc (.cells #[.bool na, .slice A n c] 24)).alloc (.cells #[.bool nb, .slice A' n' c'] 24))).alloc (.cells #[.bool false, .slice none 0 0] 24)) (.bool false) (.slice none 0 0); simp only [World.size_alloc] at this; exact this) hb1 (by simp)))
  clear hr hap ho1 ho2 hb1
  go_wp2_with fail
  generalize hw2 : (World.alloc (World.alloc w1 _) _) = w2
  obtain ⟨G, hG⟩ : ∃ G, G = w1.heap.size := ⟨_, rfl⟩
  have hc1 : w2.heap[G]? = some (.cells #[.bool (decide (Z1 < 0)), .slice A1 (digs W Z1.natAbs).length c1] 24 (0, 0)) := by rw [← hw2, hG]; exact heap_first2 w1 _ _
  have hc2 : w2.heap[G + 1]? = some (.cells #[.bool (decide (Z2 < 0)), .slice A2 (digs W Z2.natAbs).length c2] 24 (0, 0)) := by rw [← hw2, hG]; exact heap_second w1 _ _
  have hz2 : w2.heap.size = G + 1 + 1 := by rw [← hw2, hG]; simp
  have H2 := Lib.hid (show Below w1.heap.size w1 w2 by rw [← hw2]; exact ((Below.refl _ _).alloc (Nat.le_refl _) _).alloc (by first | omega | (simp; done) | (simp; omega)) _)
  have q0 := (H2.out.cell (p := ⟨w.heap.size + 1, 0, none⟩) (by first | omega | (simp; done) | (simp; omega))).trans q0
  have q1 := (H2.out.cell (p := ⟨w.heap.size + 1, 1, none⟩) (by first | omega | (simp; done) | (simp; omega))).trans q1
  have a0 := two_cells (Below.refl (G + 1 + 1) w2) hc1 (by first | omega | (simp; done) | (simp; omega))
  have a1 := two_cells (Below.refl (G + 1 + 1) w2) hc2 (by first | omega | (simp; done) | (simp; omega))
  rw [← hG]
  have HZ2 := Lib.hid hz2
  have HG := Lib.hid hG
  have HH := Lib.hid (show w.heap.size + 1 + 1 + 1 + 1 ≤ G by omega)
  have HS7 := Lib.hid (fun w5 (hb : Below (G + 1 + 1) w2 w5) => And.intro (And.intro ((hb.cell (p := ⟨G, 0, none⟩) (by first | omega | (simp; done) | (simp; omega))).trans a0.1) ((hb.cell (p := ⟨G, 1, none⟩) (by first | omega | (simp; done) | (simp; omega))).trans a0.2.1)) (And.intro (And.intro ((hb.cell (p := ⟨G + 1, 0, none⟩) (by first | omega | (simp; done) | (simp; omega))).trans a1.1) ((hb.cell (p := ⟨G + 1, 1, none⟩) (by first | omega | (simp; done) | (simp; omega))).trans a1.2.1)) (And.intro ((hb.cell (p := ⟨w.heap.size + 1, 0, none⟩) (by first | omega | (simp; done) | (simp; omega))).trans q0) ((hb.cell (p := ⟨w.heap.size + 1, 1, none⟩) (by first | omega | (simp; done) | (simp; omega))).trans q1))))
  have HFz := Lib.hid (fun w5 (hb : Below (G + 1 + 1) w2 w5) => And.intro (And.intro ((hb.frozen (p := ⟨G, 0, none⟩) (by first | omega | (simp; done) | (simp; omega))).trans a0.2.2.1) ((hb.frozen (p := ⟨G, 1, none⟩) (by first | omega | (simp; done) | (simp; omega))).trans a0.2.2.2)) (And.intro ((hb.frozen (p := ⟨G + 1, 0, none⟩) (by first | omega | (simp; done) | (simp; omega))).trans a1.2.2.1) ((hb.frozen (p := ⟨G + 1, 1, none⟩) (by first | omega | (simp; done) | (simp; omega))).trans a1.2.2.2)))
  have S0 := HS7.out _ (Below.refl _ _)
  have HBG := Lib.hid (fun w5 (hb : Below (G + 1 + 1) w2 w5) => And.intro (Bx.below hc1 hb (by omega)) (And.intro (Bx.below hc2 hb (by omega)) (And.intro (Bx.below (HBx.out.1.below H2.out (by simp at *; omega)) hb (by omega)) (Bx.below (HBx.out.2.below H2.out (by simp at *; omega)) hb (by omega)))))
  clear hw2 hc1 hc2 hz2 hG q0 q1 a0 a1
  have HSr := Lib.hid (fun w5 (hb : Below (G + 1 + 1) w2 w5) => sign_own ((HO.out.2.below H2.out (Nat.le_refl _)).below hb (by rw [HZ2.out]; exact Nat.le_refl _)))
  have HB2 := Lib.hid ((((((HB.out.alloc (Nat.le_refl _) _).alloc (by first | omega | (simp; done) | (simp; omega)) _).alloc (by first | omega | (simp; done) | (simp; omega)) _).alloc (by first | omega | (simp; done) | (simp; omega)) _).trans (H1.out.mono (B' := w.heap.size) (by first | omega | (simp; done) | (simp; omega)))).trans (H2.out.mono (B' := w.heap.size) (by first | omega | (simp; done) | (simp; omega))))
  have HSb := Lib.hid (fun w5 (hb : Below (G + 1 + 1) w2 w5) => HSb0.out w5 (HB2.out.trans (hb.mono (by have := HH.out; omega))))
  generalize hY : ival nb m = Y at *
  obtain ⟨sr, hsre⟩ : ∃ sr, Z2.sign = sr := ⟨_, rfl⟩
  obtain ⟨sb, hsbe⟩ : ∃ sb, Y.sign = sb := ⟨_, rfl⟩
  rw [hsre] at HSr hsr
  rw [hsbe] at HSb hsgn
  clear hsre hsbe HSb0
  go_region_held3 (fun w5 => ((w5.cell? ⟨G, 0, none⟩ = some (.bool (decide (Z1 < 0))) ∧ w5.cell? ⟨G, 1, none⟩ = some (.slice A1 (digs W Z1.natAbs).length c1)) ∧ (w5.cell? ⟨G + 1, 0, none⟩ = some (.bool (decide (Z2 < 0))) ∧ w5.cell? ⟨G + 1, 1, none⟩ = some (.slice A2 (digs W Z2.natAbs).length c2)) ∧ (w5.cell? ⟨w.heap.size + 1, 0, none⟩ = some (.bool nb) ∧ w5.cell? ⟨w.heap.size + 1, 1, none⟩ = some (.slice A' n' c'))))
    (first
      | (go_keep; done)
      | exact HS7.out _ kb
      | exact HS7.out _ ka
      | exact HS7.out _ (Below.refl _ _).drew)
    (first
      | (go_at_call 42; (with_reducible refine (HSr.out _ ?_).mono ?_); exact (Below.refl _ _).drew; rintro e w5 ⟨rfl, hb5⟩; have ka := (Below.refl (G + 1 + 1) w2).drew.trans (hb5.mono (B' := G + 1 + 1) (by have := HZ2.out; first | omega | (simp; omega))))
      | (go_at_call 42; (with_reducible refine (HSb.out _ ?_).mono ?_); exact ka; rintro e w6 ⟨rfl, hb6⟩; have kb := ka.trans (hb6.mono (B' := G + 1 + 1) (by have := HZ2.out; have := ka.size; omega))))
  go_wp2_with fail
  have HOA := Lib.hid (fun w5 (hb : Below (G + 1 + 1) w2 w5) => (HO.out.1.below H2.out (Nat.le_refl _)).below hb (by rw [HZ2.out]; exact Nat.le_refl _))
  have HOB := Lib.hid (fun w5 (hb : Below (G + 1 + 1) w2 w5) => (HO.out.2.below H2.out (Nat.le_refl _)).below hb (by rw [HZ2.out]; exact Nat.le_refl _))
  have hl1 : (digs W Z1.natAbs).length ≤ 67108864 := by have := HLZ.out.1; have := HN.out; omega
  have hl2 : (digs W Z2.natAbs).length ≤ 67108864 := by have := HLZ.out.2; have := HN.out; omega
  have S6 := HS7.out _ kb.drew
  refine wp_region_wait (fun w5 => ((w5.cell? ⟨G, 0, none⟩ = some (.bool (decide (Z1 < 0))) ∧ w5.cell? ⟨G, 1, none⟩ = some (.slice A1 (digs W Z1.natAbs).length c1)) ∧ (w5.cell? ⟨G + 1, 0, none⟩ = some (.bool (decide (Z2 < 0))) ∧ w5.cell? ⟨G + 1, 1, none⟩ = some (.slice A2 (digs W Z2.natAbs).length c2)) ∧ (w5.cell? ⟨w.heap.size + 1, 0, none⟩ = some (.bool nb) ∧ w5.cell? ⟨w.heap.size + 1, 1, none⟩ = some (.slice A' n' c')))) 6 (by kernel_rfl) ?_
  refine wpAnyW_take 6 (i := 0) (v := .agg #[.bool (decide (Z1 < 0)), .slice A1 (digs W Z1.natAbs).length c1]) rfl (by kernel_rfl) (by kernel_rfl) (by kernel_rfl) (by kernel_rfl) (fun _ _ _ h => h) (Or.inl ⟨by rfl, ?_⟩) (by exact S6) ?_
  · intro w5 hSw
    go_simp
  refine wpAnyW_take 5 (i := 3) (v := .agg #[.bool (decide (Z2 < 0)), .slice A2 (digs W Z2.natAbs).length c2]) rfl (by kernel_rfl) (by kernel_rfl) (by kernel_rfl) (by kernel_rfl) (fun _ _ _ h => h) (Or.inl ⟨by rfl, ?_⟩) (by exact S6) ?_
  · intro w5 hSw
    go_simp
  refine wpAnyW_take 5 (i := 4) (v := .agg #[.bool nb, .slice A' n' c']) rfl (by kernel_rfl) (by kernel_rfl) (by kernel_rfl) (by kernel_rfl) (fun _ _ _ h => h) (Or.inl ⟨by rfl, ?_⟩) (by exact S6) ?_
  · intro w5 hSw
    go_simp
  refine wpAnyW_one (i := 1) (by kernel_rfl) rfl (fun K hK => ?_)
  go_simp
  (with_reducible refine (HF.out _).mono ?_)
  rintro e w8 ⟨v, rfl, ⟨A3, c3, rfl, ho3⟩, hb8⟩
  have k8 := kb.drew.trans (hb8.mono (B' := G + 1 + 1) (by have := kb.size; have := HZ2.out; first | omega | (simp; omega)))
  have S8 := HS7.out _ k8
  refine hK.out _ _ (fun _ => S8) ?_
  refine wpAnyW_one (i := 2) (by kernel_rfl) rfl (fun K hK => ?_)
  go_simp
  (with_reducible refine (sum_own2 (HOA.out _ k8) hl1 ho3 (digs_length_le (k := 67108864) (by decide) (by rw [HM1.out]; exact m1_lt (k := 67108864) (by decide))) rfl).mono ?_)
  rintro e w9 ⟨v, rfl, ⟨A4, c4, rfl, ho4⟩, hb9⟩
  have k9 := k8.trans (hb9.mono (B' := G + 1 + 1) (by have := k8.size; have := HZ2.out; omega))
  have S9 := HS7.out _ k9
  refine hK.out _ _ (fun _ => S9) ?_
  refine wpAnyW_one (i := 5) (by kernel_rfl) rfl (fun K hK => ?_)
  go_simp
  (with_reducible refine (sum_raw nb (HOB.out _ k9) hl2 (HSm0.out _ (HB2.out.trans (k9.mono (by have := HH.out; omega)))).1 (HSm0.out _ (HB2.out.trans (k9.mono (by have := HH.out; omega)))).2 (by have := HN.out; omega) (by rw [hY])).mono ?_)
  rintro e w10 ⟨v, rfl, ⟨A5, c5, rfl, ho5⟩, hb10⟩
  have k10 := k9.trans (hb10.mono (B' := G + 1 + 1) (by have := k9.size; have := HZ2.out; omega))
  have S10 := HS7.out _ k10
  have F10 := HFz.out _ k10
  refine hK.out _ _ (fun _ => S10) ?_
  refine wpAnyW_one (i := 6) (by kernel_rfl) rfl (fun K hK => ?_)
  go_simp
  refine hK.out _ _ (fun h => absurd h (by simp)) ?_
  refine wpAnyW_one (i := 7) (by kernel_rfl) rfl (fun K hK => ?_)
  go_simp
  refine hK.out _ _ (fun h => absurd h (by simp)) ?_
  refine wpAnyW_done (by kernel_rfl) ?_ _
  go_wp2_with fail
  have BG := (((HBG.out _ k10).1.set (.bool (decide (Z1 + m1 < 0))) (.slice A4 (digs W (Z1 + m1).natAbs).length c4)).far (p := ⟨G + 1, 0, none⟩) (by simp) (.bool (decide (Z2 + Y < 0)))).far (p := ⟨G + 1, 1, none⟩) (by simp) (.slice A5 (digs W (Z2 + Y).natAbs).length c5)
  have BG1 := (((HBG.out _ k10).2.1.far (p := ⟨G, 0, none⟩) (by simp) (.bool (decide (Z1 + m1 < 0)))).far (p := ⟨G, 1, none⟩) (by simp) (.slice A4 (digs W (Z1 + m1).natAbs).length c4)).set (.bool (decide (Z2 + Y < 0))) (.slice A5 (digs W (Z2 + Y).natAbs).length c5)
  have BR2 := ((((HBG.out _ k10).2.2.1.far (p := ⟨G, 0, none⟩) (by have := HH.out; simp; omega) (.bool (decide (Z1 + m1 < 0)))).far (p := ⟨G, 1, none⟩) (by have := HH.out; simp; omega) (.slice A4 (digs W (Z1 + m1).natAbs).length c4)).far (p := ⟨G + 1, 0, none⟩) (by have := HH.out; simp; omega) (.bool (decide (Z2 + Y < 0)))).far (p := ⟨G + 1, 1, none⟩) (by have := HH.out; simp; omega) (.slice A5 (digs W (Z2 + Y).natAbs).length c5)
  have BR3 := ((((HBG.out _ k10).2.2.2.far (p := ⟨G, 0, none⟩) (by have := HH.out; simp; omega) (.bool (decide (Z1 + m1 < 0)))).far (p := ⟨G, 1, none⟩) (by have := HH.out; simp; omega) (.slice A4 (digs W (Z1 + m1).natAbs).length c4)).far (p := ⟨G + 1, 0, none⟩) (by have := HH.out; simp; omega) (.bool (decide (Z2 + Y < 0)))).far (p := ⟨G + 1, 1, none⟩) (by have := HH.out; simp; omega) (.slice A5 (digs W (Z2 + Y).natAbs).length c5)
  have hz8 : G + 1 < w8.heap.size := by have := k8.size; have := HZ2.out; omega
  have hz9 := hb9.size
  have OA := Own.far4 (Own.below ho4 hb10 (Nat.le_refl _)) (g := G) (k := G + 1) (by omega) (by omega) (.bool (decide (Z1 + m1 < 0))) (.slice A4 (digs W (Z1 + m1).natAbs).length c4) (.bool (decide (Z2 + Y < 0))) (.slice A5 (digs W (Z2 + Y).natAbs).length c5)
  have OB := Own.far4 ho5 (g := G) (k := G + 1) (by omega) (by omega) (.bool (decide (Z1 + m1 < 0))) (.slice A4 (digs W (Z1 + m1).natAbs).length c4) (.bool (decide (Z2 + Y < 0))) (.slice A5 (digs W (Z2 + Y).natAbs).length c5)
  have HBT := Lib.hid (((((HB2.out.trans (k10.mono (B' := w.heap.size) (by have := HH.out; omega))).setCell (p := ⟨G, 0, none⟩) (by have := HH.out; simp; omega) (.bool (decide (Z1 + m1 < 0)))).setCell (p := ⟨G, 1, none⟩) (by have := HH.out; simp; omega) (.slice A4 (digs W (Z1 + m1).natAbs).length c4)).setCell (p := ⟨G + 1, 0, none⟩) (by have := HH.out; simp; omega) (.bool (decide (Z2 + Y < 0)))).setCell (p := ⟨G + 1, 1, none⟩) (by have := HH.out; simp; omega) (.slice A5 (digs W (Z2 + Y).natAbs).length c5))
  have HAp := Lib.hid (Apart.of_blocks (b1 := decide (Z1 + m1 < 0)) (b2 := decide (Z2 + Y < 0)) (k1 := (digs W (Z1 + m1).natAbs).length) (k2 := (digs W (Z2 + Y).natAbs).length) (c1 := c4) (c2 := c5) ho4 ho5 (Nat.le_refl _))
  have hgT : (((((w10.setCell ⟨G, 0, none⟩ (.bool (decide (Z1 + m1 < 0)))).setCell ⟨G, 1, none⟩ (.slice A4 (digs W (Z1 + m1).natAbs).length c4)).setCell ⟨G + 1, 0, none⟩ (.bool (decide (Z2 + Y < 0)))).setCell ⟨G + 1, 1, none⟩ (.slice A5 (digs W (Z2 + Y).natAbs).length c5))).heap.size = w10.heap.size := by simp
  have hl3 : (digs W (Z1 + m1).natAbs).length ≤ 67108864 := Nat.le_trans (digs_add_len (lt_of_len (k := 67108863) (by have := HLZ.out.1; have := HN.out; omega)) (by rw [HM1.out]; exact m1_lt (k := 67108863) (by decide))) (by omega)
  generalize ((((w10.setCell ⟨G, 0, none⟩ (.bool (decide (Z1 + m1 < 0)))).setCell ⟨G, 1, none⟩ (.slice A4 (digs W (Z1 + m1).natAbs).length c4)).setCell ⟨G + 1, 0, none⟩ (.bool (decide (Z2 + Y < 0)))).setCell ⟨G + 1, 1, none⟩ (.slice A5 (digs W (Z2 + Y).natAbs).length c5)) = wT at *
  rw [HDe.out, HMe.out]
  rw [HDe.out] at HCe
  generalize hZ3 : Z1 + m1 = Z3 at *
  generalize hZ4 : Z2 + Y = Z4 at *
  refine (long_at OA hl3 hgT).mono ?_
  rintro ex wU ⟨rfl, hbU⟩
  obtain ⟨g0, g1, _, _⟩ := ((BG.alloc _).below hbU (BG.alloc _).lt).facts
  obtain ⟨g2, g3, _, _⟩ := ((BG1.alloc _).below hbU (BG1.alloc _).lt).facts
  obtain ⟨r0, r1, r2, r3⟩ := ((BR2.alloc _).below hbU (BR2.alloc _).lt).facts
  obtain ⟨s0, s1, s2, s3⟩ := ((BR3.alloc _).below hbU (BR3.alloc _).lt).facts
  have HBU := Lib.hid ((HBT.out.alloc (by have := HBT.out.size; omega) _).trans (hbU.mono (B' := w.heap.size) (by have := HBT.out.size; simp; omega)))
  have HOU := Lib.hid (And.intro (Own.below (Own.alloc OA _) hbU (Nat.le_refl _)) (Own.below (Own.alloc OB _) hbU (Nat.le_refl _)))
  have HHU := Lib.hid (show w.heap.size + 1 + 1 + 1 < w8.heap.size ∧ w8.heap.size ≤ w9.heap.size by have := HH.out; omega)
  clear hbU OA OB BG BG1 BR2 BR3 S0 S6 S8 S9 S10 F10 hgT hl3
  cases hT : tooLong Z3
  · have HC := Lib.hid (show co = 0 by rw [HCe.out, hT]; rfl)
    clear hT hZ3 hZ4
    have n1 : ¬ (w.heap.size + 1 = G) := by have := HH.out; omega
    have n2 : ¬ (w.heap.size + 1 + 1 = G) := by have := HH.out; omega
    have n3 : ¬ (w.heap.size + 1 + 1 + 1 = G) := by have := HH.out; omega
    have n4 : ¬ (G = w.heap.size + 1) := by have := HH.out; omega
    have n5 : ¬ (G = w.heap.size + 1 + 1) := by have := HH.out; omega
    have n6 : ¬ (G = w.heap.size + 1 + 1 + 1) := by have := HH.out; omega
    go_wp2_with fail
    go_region
    all_goals
      go_wp2
      refine bodyPost_ret (v := .tuple #[.agg #[.bool (decide (Z3 < 0)), .slice A4 (digs W Z3.natAbs).length c4], .agg #[.bool (decide (Z4 < 0)), .slice A5 (digs W Z4.natAbs).length c5], .int .i64 0]) (by simp [results, Try.results21, go_sem, r0, r1, s0, s1]) rfl ?_
      rw [HDe.out, HMe.out]
      refine QRPost.drew ?_
      first
        | exact QRPost.fin4 (g := w.heap.size + 1 + 1) (h := w.heap.size + 1 + 1 + 1) HC.out HOU.out.1 HOU.out.2 HHU.out.2 HAp.out HBU.out (by have := HHU.out; omega) (by have := HHU.out; omega) (by omega) (by omega) ⟨_, _, _, _, rfl⟩
        | exact QRPost.fin4 (g := w.heap.size + 1 + 1 + 1) (h := w.heap.size + 1 + 1) HC.out HOU.out.1 HOU.out.2 HHU.out.2 HAp.out HBU.out (by have := HHU.out; omega) (by have := HHU.out; omega) (by omega) (by omega) ⟨_, _, _, _, rfl⟩
  · have HC := Lib.hid (show co = 10 by rw [HCe.out, hT]; rfl)
    clear hT hZ3 hZ4
    go_wp2_with fail
    exact bodyPost_ret (v := .tuple #[zeroV, zeroV, .int .i64 10]) (by simp [results, Try.results21, go_sem, r0, r1, s0, s1]) rfl
      (QRPost.bad (by first | exact HC.out | rfl) (by decide) ((((HBU.out.setCell (by first | omega | (simp; done) | (simp; omega)) _).setCell (by first | omega | (simp; done) | (simp; omega)) _).setCell (by first | omega | (simp; done) | (simp; omega)) _).setCell (by first | omega | (simp; done) | (simp; omega)) _))
theorem dvC_false {x y : Int} (h : dvC x y = false) : ((x.tmod y).sign != 0) = true → (decide (x.tmod y < 0) == decide (y < 0)) = true := by
  intro h1
  rw [beq_iff_eq]
  have h2 : x.tmod y ≠ 0 := by
    intro e; rw [e] at h1; simp at h1
  simp only [dvC, Bool.and_eq_false_iff, decide_eq_false_iff_not] at h
  rcases h with h | h
  · exact absurd h2 h
  · exact Classical.not_not.1 h
set_option maxRecDepth 100000 in
set_option maxHeartbeats 4000000 in
theorem DivMod_same (na nb : Bool) {B B' : Nat} {A A' : Option Addr} {l m : List Nat} {n c n' c' : Nat} {w : World} (hs : SlU w B A n c l) (ht : SlU w B' A' n' c' m) (hn : n ≤ 67108860) (hn' : n' ≤ 67108860) (hB : B ≤ w.heap.size) (hB' : B' ≤ w.heap.size)
    (h10 : (lng l || lng m) = false) (h11 : ival nb m ≠ 0) (hC : dvC (ival na l) (ival nb m) = false) :
    Calls Try.prog 21 #[.agg #[.bool na, .slice A n c], .agg #[.bool nb, .slice A' n' c']] w (QRPost w (dvD (ival na l) (ival nb m)) (dvM (ival na l) (ival nb m)) (dvCode (lng l || lng m) (ival na l) (ival nb m))) := by
  have HQ := Lib.hid (fun w1 (hb : Below w.heap.size w w1) => QuoRem_any na nb (hs.below (C := w.heap.size) hb hB) (ht.below (C := w.heap.size) hb hB') (by omega) (by omega) (Nat.le_trans hB hb.size) (Nat.le_trans hB' hb.size))
  rw [h10] at HQ
  have HB := Lib.hid (Below.refl w.heap.size w)
  have HX := Lib.hid h11
  have HSb0 := Lib.hid (fun w1 (hb : Below w.heap.size w w1) => sign_any nb (ht.below (C := w.heap.size) hb hB') (Nat.le_trans hB' hb.size))
  have HLn := Lib.hid (And.intro hs.len (And.intro hs.dig (And.intro ht.len ht.dig)))
  have HSm0 := Lib.hid (fun w1 (hb : Below w.heap.size w w1) => And.intro (ht.below (C := w.heap.size) hb hB') (Nat.le_trans hB' hb.size))
  have hsgn : decide ((ival nb m).sign < 0) = decide (ival nb m < 0) := decide_eq_decide.2 Int.sign_neg_iff
  generalize hco : (if false = true then (10 : Int) else if ival nb m = 0 then 11 else 0) = co at *
  obtain rfl : co = 0 := by rw [← hco, if_neg (by simp), if_neg h11]
  have HN := Lib.hid (And.intro hn hn')
  have HLZ := Lib.hid (And.intro (tdiv_len (y := ival nb m) (ival_lt (neg := na) hs.dig (Nat.le_of_eq hs.len))) (tmod_len (y := ival nb m) (ival_lt (neg := na) hs.dig (Nat.le_of_eq hs.len))))
  have HLY := Lib.hid (ival_lt (neg := nb) ht.dig (Nat.le_of_eq ht.len))
  have HDe := Lib.hid (show dvD (ival na l) (ival nb m) = (ival na l).tdiv (ival nb m) by rw [dvD, if_neg (by rw [hC]; simp)])
  have HMe := Lib.hid (show dvM (ival na l) (ival nb m) = (ival na l).tmod (ival nb m) by rw [dvM, if_neg (by rw [hC]; simp)])
  have HCC := Lib.hid hC
  have HAp0 := Lib.hid (dvC_false hC)
  have HCe := Lib.hid (show dvCode (lng l || lng m) (ival na l) (ival nb m) = err (tooLong (dvD (ival na l) (ival nb m))) by rw [dvCode, h10, if_neg (by simp), if_neg h11]; rfl)
  clear hco h11 h10 hC hs ht hn hn' hB hB'
  generalize dvCode (lng l || lng m) (ival na l) (ival nb m) = co at *
  generalize dvD (ival na l) (ival nb m) = D at *
  generalize dvM (ival na l) (ival nb m) = M at *
  go_enter Try.func21, Try.ntmps21
  go_wp2_with fail
  refine (HQ.out _ ?_).mono ?_
  · exact ((((HB.out.alloc (Nat.le_refl _) _).alloc (by first | omega | (simp; done) | (simp; omega)) _).alloc (by first | omega | (simp; done) | (simp; omega)) _).alloc (by first | omega | (simp; done) | (simp; omega)) _)
  rintro ex w1 ⟨v1, v2, rfl, hr, _, hb1⟩
  obtain ⟨⟨A1, c1, rfl, ho1⟩, ⟨A2, c2, rfl, ho2⟩, hap⟩ := hr rfl
  have HAp := Lib.hid hap
  generalize (ival na l).tdiv (ival nb m) = Z1 at *
  generalize (ival na l).tmod (ival nb m) = Z2 at *
  have HO := Lib.hid (And.intro ho1 ho2)
  have q0 := (hb1.cell (p := ⟨w.heap.size + 1, 0, none⟩) (by first | omega | (simp; done) | (simp; omega))).trans (by simp [go_sem] : _ = some (.bool nb))
  have q1 := (hb1.cell (p := ⟨w.heap.size + 1, 1, none⟩) (by first | omega | (simp; done) | (simp; omega))).trans (by simp [go_sem] : _ = some (.slice A' n' c'))
  have hz1 := hb1.size
  simp at hz1
  have H1 := Lib.hid hb1
  have HBx := Lib.hid (And.intro (Bx.below (g := w.heap.size + 1 + 1) (x := .bool false) (y := .slice none 0 0) (by have := Bx.new (((w.alloc (.cells #[.bool na, .slice A n c] 24)).alloc (.cells #[.bool nb, .slice A' n' c'] 24))) (.bool false) (.slice none 0 0); simp only [World.size_alloc] at this; exact this.alloc _) hb1 (by simp)) (Bx.below (g := w.heap.size + 1 + 1 + 1) (x := .bool false) (y := .slice none 0 0) (by have := Bx.new ((((w.alloc (.cells #[.bool na, .slice A n c] 24)).alloc (.cells #[.bool nb, .slice A' n' c'] 24))).alloc (.cells #[.bool false, .slice none 0 0] 24)) (.bool false) (.slice none 0 0); simp only [World.size_alloc] at this; exact this) hb1 (by simp)))
  clear hr hap ho1 ho2 hb1
  go_wp2_with fail
  generalize hw2 : (World.alloc (World.alloc w1 _) _) = w2
  obtain ⟨G, hG⟩ : ∃ G, G = w1.heap.size := ⟨_, rfl⟩
  have hc1 : w2.heap[G]? = some (.cells #[.bool (decide (Z1 < 0)), .slice A1 (digs W Z1.natAbs).length c1] 24 (0, 0)) := by rw [← hw2, hG]; exact heap_first2 w1 _ _
  have hc2 : w2.heap[G + 1]? = some (.cells #[.bool (decide (Z2 < 0)), .slice A2 (digs W Z2.natAbs).length c2] 24 (0, 0)) := by rw [← hw2, hG]; exact heap_second w1 _ _
  have hz2 : w2.heap.size = G + 1 + 1 := by rw [← hw2, hG]; simp
  have H2 := Lib.hid (show Below w1.heap.size w1 w2 by rw [← hw2]; exact ((Below.refl _ _).alloc (Nat.le_refl _) _).alloc (by first | omega | (simp; done) | (simp; omega)) _)
  have q0 := (H2.out.cell (p := ⟨w.heap.size + 1, 0, none⟩) (by first | omega | (simp; done) | (simp; omega))).trans q0
  have q1 := (H2.out.cell (p := ⟨w.heap.size + 1, 1, none⟩) (by first | omega | (simp; done) | (simp; omega))).trans q1
  have a0 := two_cells (Below.refl (G + 1 + 1) w2) hc1 (by first | omega | (simp; done) | (simp; omega))
  have a1 := two_cells (Below.refl (G + 1 + 1) w2) hc2 (by first | omega | (simp; done) | (simp; omega))
  rw [← hG]
  have HZ2 := Lib.hid hz2
  have HG := Lib.hid hG
  have HH := Lib.hid (show w.heap.size + 1 + 1 + 1 + 1 ≤ G by omega)
  have HS7 := Lib.hid (fun w5 (hb : Below (G + 1 + 1) w2 w5) => And.intro (And.intro ((hb.cell (p := ⟨G, 0, none⟩) (by first | omega | (simp; done) | (simp; omega))).trans a0.1) ((hb.cell (p := ⟨G, 1, none⟩) (by first | omega | (simp; done) | (simp; omega))).trans a0.2.1)) (And.intro (And.intro ((hb.cell (p := ⟨G + 1, 0, none⟩) (by first | omega | (simp; done) | (simp; omega))).trans a1.1) ((hb.cell (p := ⟨G + 1, 1, none⟩) (by first | omega | (simp; done) | (simp; omega))).trans a1.2.1)) (And.intro ((hb.cell (p := ⟨w.heap.size + 1, 0, none⟩) (by first | omega | (simp; done) | (simp; omega))).trans q0) ((hb.cell (p := ⟨w.heap.size + 1, 1, none⟩) (by first | omega | (simp; done) | (simp; omega))).trans q1))))
  have HFz := Lib.hid (fun w5 (hb : Below (G + 1 + 1) w2 w5) => And.intro (And.intro ((hb.frozen (p := ⟨G, 0, none⟩) (by first | omega | (simp; done) | (simp; omega))).trans a0.2.2.1) ((hb.frozen (p := ⟨G, 1, none⟩) (by first | omega | (simp; done) | (simp; omega))).trans a0.2.2.2)) (And.intro ((hb.frozen (p := ⟨G + 1, 0, none⟩) (by first | omega | (simp; done) | (simp; omega))).trans a1.2.2.1) ((hb.frozen (p := ⟨G + 1, 1, none⟩) (by first | omega | (simp; done) | (simp; omega))).trans a1.2.2.2)))
  have S0 := HS7.out _ (Below.refl _ _)
  have HBG := Lib.hid (fun w5 (hb : Below (G + 1 + 1) w2 w5) => And.intro (Bx.below hc1 hb (by omega)) (And.intro (Bx.below hc2 hb (by omega)) (And.intro (Bx.below (HBx.out.1.below H2.out (by simp at *; omega)) hb (by omega)) (Bx.below (HBx.out.2.below H2.out (by simp at *; omega)) hb (by omega)))))
  clear hw2 hc1 hc2 hz2 hG q0 q1 a0 a1
  have HSr := Lib.hid (fun w5 (hb : Below (G + 1 + 1) w2 w5) => sign_own ((HO.out.2.below H2.out (Nat.le_refl _)).below hb (by rw [HZ2.out]; exact Nat.le_refl _)))
  have HB2 := Lib.hid ((((((HB.out.alloc (Nat.le_refl _) _).alloc (by first | omega | (simp; done) | (simp; omega)) _).alloc (by first | omega | (simp; done) | (simp; omega)) _).alloc (by first | omega | (simp; done) | (simp; omega)) _).trans (H1.out.mono (B' := w.heap.size) (by first | omega | (simp; done) | (simp; omega)))).trans (H2.out.mono (B' := w.heap.size) (by first | omega | (simp; done) | (simp; omega))))
  have HSb := Lib.hid (fun w5 (hb : Below (G + 1 + 1) w2 w5) => HSb0.out w5 (HB2.out.trans (hb.mono (by have := HH.out; omega))))
  generalize hY : ival nb m = Y at *
  obtain ⟨sr, hsre⟩ : ∃ sr, Z2.sign = sr := ⟨_, rfl⟩
  obtain ⟨sb, hsbe⟩ : ∃ sb, Y.sign = sb := ⟨_, rfl⟩
  rw [hsre] at HSr HAp0
  rw [hsbe] at HSb hsgn
  clear hsre hsbe HSb0
  cases hq : (sr != 0)
  · obtain rfl : sr = 0 := by simpa using hq
    clear hq
    refine wp_region_any (by kernel_rfl) ?_
    refine wpAny_one (i := 0) (by kernel_rfl) rfl (fun K hK => ?_)
    go_simp
    refine hK.out _ _ ?_
    refine wpAny_one (i := 1) (by kernel_rfl) rfl (fun K hK => ?_)
    go_simp
    refine hK.out _ _ ?_
    refine wpAny_one (i := 2) (by kernel_rfl) rfl (fun K hK => ?_)
    go_simp
    refine hK.out _ _ ?_
    refine wpAny_one (i := 3) (by kernel_rfl) rfl (fun K hK => ?_)
    go_simp
    refine hK.out _ _ ?_
    refine wpAny_one (i := 4) (by kernel_rfl) rfl (fun K hK => ?_)
    go_simp
    (with_reducible refine (HSr.out _ ?_).mono ?_)
    · exact (Below.refl _ _).drew
    rintro e w5 ⟨rfl, hb5⟩
    have ka := (Below.refl (G + 1 + 1) w2).drew.trans (hb5.mono (B' := G + 1 + 1) (by have := HZ2.out; first | omega | (simp; omega)))
    refine hK.out _ _ ?_
    refine wpAny_one (i := 5) (by kernel_rfl) rfl (fun K hK => ?_)
    go_simp
    refine hK.out _ _ ?_
    refine wpAny_one (i := 6) (by kernel_rfl) rfl (fun K hK => ?_)
    go_simp
    refine hK.out _ _ ?_
    refine wpAny_one (i := 7) (by kernel_rfl) rfl (fun K hK => ?_)
    go_simp
    refine hK.out _ _ ?_
    refine wpAny_skip (i := 8) rfl (by kernel_rfl) (by kernel_rfl) (by kernel_rfl) (fun _ _ _ h => h) (by rfl) ?_
    refine wpAny_skip (i := 9) rfl (by kernel_rfl) (by kernel_rfl) (by kernel_rfl) (fun _ _ _ h => h) (by rfl) ?_
    refine wpAny_skip (i := 10) rfl (by kernel_rfl) (by kernel_rfl) (by kernel_rfl) (fun _ _ _ h => h) (by rfl) ?_
    refine wpAny_skip (i := 11) rfl (by kernel_rfl) (by kernel_rfl) (by kernel_rfl) (fun _ _ _ h => h) (by rfl) ?_
    refine wpAny_skip (i := 12) rfl (by kernel_rfl) (by kernel_rfl) (by kernel_rfl) (fun _ _ _ h => h) (by rfl) ?_
    refine wpAny_skip (i := 13) rfl (by kernel_rfl) (by kernel_rfl) (by kernel_rfl) (fun _ _ _ h => h) (by rfl) ?_
    refine wpAny_one (i := 14) (by kernel_rfl) rfl (fun K hK => ?_)
    go_simp
    refine hK.out _ _ ?_
    refine wpAny_done (by kernel_rfl) ?_ _
    have S5 := HS7.out _ ka
    go_wp2_with fail
    clear S5
    have BG := (HBG.out _ ka).1
    have BG1 := (HBG.out _ ka).2.1
    have BR2 := (HBG.out _ ka).2.2.1
    have BR3 := (HBG.out _ ka).2.2.2
    have OA := Own.below (Own.below HO.out.1 H2.out (Nat.le_refl _)) ka (Nat.le_of_eq HZ2.out)
    have OB := Own.below (Own.below HO.out.2 H2.out (Nat.le_refl _)) ka (Nat.le_of_eq HZ2.out)
    have HBT := Lib.hid (HB2.out.trans (Below.mono ka (B' := w.heap.size) (by have := HH.out; omega)))
    have hl3 : (digs W Z1.natAbs).length ≤ 67108864 := by have := HLZ.out.1; have := HN.out; omega
    rw [HDe.out] at HCe
    refine (long_at OA hl3 rfl).mono ?_
    rintro ex wU ⟨rfl, hbU⟩
    obtain ⟨g0, g1, _, _⟩ := ((BG.alloc _).below hbU (BG.alloc _).lt).facts
    obtain ⟨g2, g3, _, _⟩ := ((BG1.alloc _).below hbU (BG1.alloc _).lt).facts
    obtain ⟨r0, r1, r2, r3⟩ := ((BR2.alloc _).below hbU (BR2.alloc _).lt).facts
    obtain ⟨s0, s1, s2, s3⟩ := ((BR3.alloc _).below hbU (BR3.alloc _).lt).facts
    have HBU := Lib.hid ((HBT.out.alloc (by have := HBT.out.size; omega) _).trans (hbU.mono (B' := w.heap.size) (by have := HBT.out.size; simp; omega)))
    have HOU := Lib.hid (And.intro (Own.below (Own.alloc OA _) hbU (Nat.le_refl _)) (Own.below (Own.alloc OB _) hbU (Nat.le_refl _)))
    clear hbU OA OB BG BG1 BR2 BR3 S0 hl3
    cases hT : tooLong Z1
    · have HC := Lib.hid (show co = 0 by rw [HCe.out, hT]; rfl)
      clear hT
      have n1 : ¬ (w.heap.size + 1 = G) := by have := HH.out; omega
      have n2 : ¬ (w.heap.size + 1 + 1 = G) := by have := HH.out; omega
      have n3 : ¬ (w.heap.size + 1 + 1 + 1 = G) := by have := HH.out; omega
      have n4 : ¬ (G = w.heap.size + 1) := by have := HH.out; omega
      have n5 : ¬ (G = w.heap.size + 1 + 1) := by have := HH.out; omega
      have n6 : ¬ (G = w.heap.size + 1 + 1 + 1) := by have := HH.out; omega
      go_wp2_with fail
      go_region
      all_goals
        go_wp2
        refine bodyPost_ret (v := .tuple #[.agg #[.bool (decide (Z1 < 0)), .slice A1 (digs W Z1.natAbs).length c1], .agg #[.bool (decide (Z2 < 0)), .slice A2 (digs W Z2.natAbs).length c2], .int .i64 0]) (by simp [results, Try.results21, go_sem, r0, r1, s0, s1]) rfl ?_
        rw [HDe.out, HMe.out]
        refine QRPost.drew ?_
        first
          | exact QRPost.fin4 (g := w.heap.size + 1 + 1) (h := w.heap.size + 1 + 1 + 1) HC.out HOU.out.1 HOU.out.2 (Nat.le_refl _) HAp.out HBU.out (by first | omega | (simp; done) | (simp; omega)) (by first | omega | (simp; done) | (simp; omega)) (by omega) (by omega) ⟨_, _, _, _, rfl⟩
          | exact QRPost.fin4 (g := w.heap.size + 1 + 1 + 1) (h := w.heap.size + 1 + 1) HC.out HOU.out.1 HOU.out.2 (Nat.le_refl _) HAp.out HBU.out (by first | omega | (simp; done) | (simp; omega)) (by first | omega | (simp; done) | (simp; omega)) (by omega) (by omega) ⟨_, _, _, _, rfl⟩
    · have HC := Lib.hid (show co = 10 by rw [HCe.out, hT]; rfl)
      clear hT
      go_wp2_with fail
      exact bodyPost_ret (v := .tuple #[zeroV, zeroV, .int .i64 10]) (by simp [results, Try.results21, go_sem, r0, r1, s0, s1]) rfl
        (QRPost.bad (by first | exact HC.out | rfl) (by decide) ((((HBU.out.setCell (by first | omega | (simp; done) | (simp; omega)) _).setCell (by first | omega | (simp; done) | (simp; omega)) _).setCell (by first | omega | (simp; done) | (simp; omega)) _).setCell (by first | omega | (simp; done) | (simp; omega)) _))
  · have hne := HAp0.out hq
    go_region_held3 (fun w5 => ((w5.cell? ⟨G, 0, none⟩ = some (.bool (decide (Z1 < 0))) ∧ w5.cell? ⟨G, 1, none⟩ = some (.slice A1 (digs W Z1.natAbs).length c1)) ∧ (w5.cell? ⟨G + 1, 0, none⟩ = some (.bool (decide (Z2 < 0))) ∧ w5.cell? ⟨G + 1, 1, none⟩ = some (.slice A2 (digs W Z2.natAbs).length c2)) ∧ (w5.cell? ⟨w.heap.size + 1, 0, none⟩ = some (.bool nb) ∧ w5.cell? ⟨w.heap.size + 1, 1, none⟩ = some (.slice A' n' c'))))
      (first
        | (go_keep; done)
        | exact HS7.out _ kb
        | exact HS7.out _ ka
        | exact HS7.out _ (Below.refl _ _).drew)
      (first
        | (go_at_call 42; (with_reducible refine (HSr.out _ ?_).mono ?_); exact (Below.refl _ _).drew; rintro e w5 ⟨rfl, hb5⟩; have ka := (Below.refl (G + 1 + 1) w2).drew.trans (hb5.mono (B' := G + 1 + 1) (by have := HZ2.out; first | omega | (simp; omega))))
        | (go_at_call 42; (with_reducible refine (HSb.out _ ?_).mono ?_); exact ka; rintro e w6 ⟨rfl, hb6⟩; have kb := ka.trans (hb6.mono (B' := G + 1 + 1) (by have := HZ2.out; have := ka.size; omega))))
    go_wp2_with fail
    have BG := (HBG.out _ kb).1
    have BG1 := (HBG.out _ kb).2.1
    have BR2 := (HBG.out _ kb).2.2.1
    have BR3 := (HBG.out _ kb).2.2.2
    have OA := Own.below (Own.below HO.out.1 H2.out (Nat.le_refl _)) kb (Nat.le_of_eq HZ2.out)
    have OB := Own.below (Own.below HO.out.2 H2.out (Nat.le_refl _)) kb (Nat.le_of_eq HZ2.out)
    have HBT := Lib.hid (HB2.out.trans (Below.mono kb (B' := w.heap.size) (by have := HH.out; omega)))
    have hl3 : (digs W Z1.natAbs).length ≤ 67108864 := by have := HLZ.out.1; have := HN.out; omega
    rw [HDe.out] at HCe
    refine (long_at OA hl3 rfl).mono ?_
    rintro ex wU ⟨rfl, hbU⟩
    obtain ⟨g0, g1, _, _⟩ := ((BG.alloc _).below hbU (BG.alloc _).lt).facts
    obtain ⟨g2, g3, _, _⟩ := ((BG1.alloc _).below hbU (BG1.alloc _).lt).facts
    obtain ⟨r0, r1, r2, r3⟩ := ((BR2.alloc _).below hbU (BR2.alloc _).lt).facts
    obtain ⟨s0, s1, s2, s3⟩ := ((BR3.alloc _).below hbU (BR3.alloc _).lt).facts
    have HBU := Lib.hid ((HBT.out.alloc (by have := HBT.out.size; omega) _).trans (hbU.mono (B' := w.heap.size) (by have := HBT.out.size; simp; omega)))
    have HOU := Lib.hid (And.intro (Own.below (Own.alloc OA _) hbU (Nat.le_refl _)) (Own.below (Own.alloc OB _) hbU (Nat.le_refl _)))
    clear hbU OA OB BG BG1 BR2 BR3 S0 hl3
    cases hT : tooLong Z1
    · have HC := Lib.hid (show co = 0 by rw [HCe.out, hT]; rfl)
      clear hT
      have n1 : ¬ (w.heap.size + 1 = G) := by have := HH.out; omega
      have n2 : ¬ (w.heap.size + 1 + 1 = G) := by have := HH.out; omega
      have n3 : ¬ (w.heap.size + 1 + 1 + 1 = G) := by have := HH.out; omega
      have n4 : ¬ (G = w.heap.size + 1) := by have := HH.out; omega
      have n5 : ¬ (G = w.heap.size + 1 + 1) := by have := HH.out; omega
      have n6 : ¬ (G = w.heap.size + 1 + 1 + 1) := by have := HH.out; omega
      go_wp2_with fail
      go_region
      all_goals
        go_wp2
        refine bodyPost_ret (v := .tuple #[.agg #[.bool (decide (Z1 < 0)), .slice A1 (digs W Z1.natAbs).length c1], .agg #[.bool (decide (Z2 < 0)), .slice A2 (digs W Z2.natAbs).length c2], .int .i64 0]) (by simp [results, Try.results21, go_sem, r0, r1, s0, s1]) rfl ?_
        rw [HDe.out, HMe.out]
        refine QRPost.drew ?_
        first
          | exact QRPost.fin4 (g := w.heap.size + 1 + 1) (h := w.heap.size + 1 + 1 + 1) HC.out HOU.out.1 HOU.out.2 (Nat.le_refl _) HAp.out HBU.out (by first | omega | (simp; done) | (simp; omega)) (by first | omega | (simp; done) | (simp; omega)) (by omega) (by omega) ⟨_, _, _, _, rfl⟩
          | exact QRPost.fin4 (g := w.heap.size + 1 + 1 + 1) (h := w.heap.size + 1 + 1) HC.out HOU.out.1 HOU.out.2 (Nat.le_refl _) HAp.out HBU.out (by first | omega | (simp; done) | (simp; omega)) (by first | omega | (simp; done) | (simp; omega)) (by omega) (by omega) ⟨_, _, _, _, rfl⟩
    · have HC := Lib.hid (show co = 10 by rw [HCe.out, hT]; rfl)
      clear hT
      go_wp2_with fail
      exact bodyPost_ret (v := .tuple #[zeroV, zeroV, .int .i64 10]) (by simp [results, Try.results21, go_sem, r0, r1, s0, s1]) rfl
        (QRPost.bad (by first | exact HC.out | rfl) (by decide) ((((HBU.out.setCell (by first | omega | (simp; done) | (simp; omega)) _).setCell (by first | omega | (simp; done) | (simp; omega)) _).setCell (by first | omega | (simp; done) | (simp; omega)) _).setCell (by first | omega | (simp; done) | (simp; omega)) _))
end Go.Proofs.Ytggdmhkdmkldoaa
