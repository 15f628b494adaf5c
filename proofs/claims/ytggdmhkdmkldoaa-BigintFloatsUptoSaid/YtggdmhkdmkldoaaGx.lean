import Derived.Test.YtggdmhkdmkldoaaTd
import Derived.Test.YtggdmhkdmkldoaaPg
import Derived.Test.YtggdmhkdmkldoaaEz
import Derived.Test.YtggdmhkdmkldoaaFy
import Derived.Test.YtggdmhkdmkldoaaSz
import Derived.Test.YtggdmhkdmkldoaaFz
namespace Go.Proofs.Ytggdmhkdmkldoaa
open Go.RowKit Hb
set_option linter.unusedVariables false
set_option linter.unusedSimpArgs false

/-! ### the calls of the law of division -/
def Ans2Post (w : World) (z1 z2 code : Int) (e : Ending) (w' : World) : Prop :=
  ∃ neg A n c l neg2 A2 n2 c2 l2, e = .returned (.tuple #[.agg #[.bool neg, .slice A n c], .agg #[.bool neg2, .slice A2 n2 c2], .int .i64 code]) ∧ OwnU w' w.heap.size A n c (u32s l) ∧ OwnU w' w.heap.size A2 n2 c2 (u32s l2) ∧
    Good z1 code neg A n c l ∧ Good z2 code neg2 A2 n2 c2 l2 ∧ (∀ g, A = some ⟨g, 0, none⟩ → A2 ≠ some ⟨g, 0, none⟩) ∧ Below w.heap.size w w'
theorem Apart.ne {A A2 : Option Addr} {n c n2 c2 : Nat} {b b2 : Value} (h : Apart (.agg #[b, .slice A n c]) (.agg #[b2, .slice A2 n2 c2])) : ∀ g, A = some ⟨g, 0, none⟩ → A2 ≠ some ⟨g, 0, none⟩ :=
  fun g e e2 => h g ⟨b, 0, n, c, by rw [e]⟩ ⟨b2, 0, n2, c2, by rw [e2]⟩
theorem QRPost.ans2 {w w' : World} {z1 z2 code : Int} {e : Ending} (h : QRPost w z1 z2 code e w') : Ans2Post w z1 z2 code e w' := by
  obtain ⟨v1, v2, he, h0, h1, hb⟩ := h
  by_cases hc : code = 0
  · obtain ⟨⟨A, c, rfl, ho⟩, ⟨A2, c2, rfl, ho2⟩, hap⟩ := h0 hc
    exact ⟨_, A, _, c, _, _, A2, _, c2, _, he, ho, ho2, ⟨fun _ => ⟨rfl, rfl⟩, fun h => absurd hc h⟩, ⟨fun _ => ⟨rfl, rfl⟩, fun h => absurd hc h⟩, Apart.ne hap, hb⟩
  · obtain ⟨rfl, rfl⟩ := h1 hc
    exact ⟨false, none, 0, 0, [], false, none, 0, 0, [], he, own_nilU _ _, own_nilU _ _, ⟨fun h => absurd h hc, fun _ => ⟨rfl, rfl⟩⟩, ⟨fun h => absurd h hc, fun _ => ⟨rfl, rfl⟩⟩, (fun g e => by cases e), hb⟩
section
variable {w : World} {A A' : Option Addr} {n c n' c' : Nat} {l m : List Nat} {na nb : Bool} {x y q r E : Int}
theorem QuoRem_we (hE : (if (tooLong x || tooLong y) = true then 10 else if y = 0 then 11 else 0) = E) (hs : SlU w w.heap.size A n c l) (ht : SlU w w.heap.size A' n' c' m) (hn : n ≤ 1048576) (hn' : n' ≤ 1048576) (hx : ival na l = x) (hy : ival nb m = y) (hq : x.tdiv y = q) (hr : x.tmod y = r) :
    Calls Try.prog 20 #[.agg #[.bool na, .slice A n c], .agg #[.bool nb, .slice A' n' c']] w (Ans2Post w q r E) := by
  have h := QuoRem_any na nb hs ht (by omega) (by omega) (Nat.le_refl _) (Nat.le_refl _)
  rw [hx, hy, lng_ival hx, lng_ival hy, hq, hr, hE] at h
  exact h.mono fun _ _ h => h.ans2
theorem DivMod_we (hE : dvCode (tooLong x || tooLong y) x y = E) (hs : SlU w w.heap.size A n c l) (ht : SlU w w.heap.size A' n' c' m) (hn : n ≤ 1048576) (hn' : n' ≤ 1048576) (hx : ival na l = x) (hy : ival nb m = y) (hq : dvD x y = q) (hr : dvM x y = r) :
    Calls Try.prog 21 #[.agg #[.bool na, .slice A n c], .agg #[.bool nb, .slice A' n' c']] w (Ans2Post w q r E) := by
  have h := DivMod_any na nb hs ht (by omega) (by omega) (Nat.le_refl _) (Nat.le_refl _)
  rw [hx, hy, lng_ival hx, lng_ival hy, hq, hr, hE] at h
  exact h.mono fun _ _ h => h.ans2
end
theorem Long_w {q : Int} (h : tooLong q = false) (s : Bool) (A : Option Addr) (c : Nat) (w : World) :
    Calls Try.prog 24 #[.agg #[.bool s, .slice A (digs 2 q.natAbs).length c]] w (LongPost false w) := by
  have h2 := rLong_any s A (digs 2 q.natAbs).length c w
  rwa [rlng_digs, h] at h2
theorem long_mono {a b : Int} (h : a.natAbs ≤ b.natAbs) (hb : tooLong b = false) : tooLong a = false := by
  rw [tooLong, decide_eq_false_iff_not] at hb ⊢
  have := blen_mono h
  omega
theorem dvD_abs {x y : Int} (hy : y ≠ 0) : (dvD x y).natAbs ≤ x.natAbs := by
  have hs := dm_sum x y
  have hm := m_abs (x := x) hy
  rcases m_cases (x := x) hy with ⟨_, e, _, _⟩ | ⟨_, e, em, h0, hs2⟩
  · rw [e]; exact tdiv_abs x y
  · have h1 := tdiv_abs x y
    have h2 := qr_sum x y
    -- one less than the quotient: the remainder is not nought
    rw [e]
    have h4 := Int.natAbs_tdiv x y
    have h3 : (x.tdiv y).natAbs < x.natAbs ∨ x.natAbs ≤ (x.tdiv y).natAbs := by omega
    rcases h3 with h3 | h3
    · omega
    · have h5 : (x.tdiv y).natAbs = x.natAbs := by omega
      exfalso
      have h6 : x.tmod y = 0 := by
        by_cases hx : x.natAbs = 0
        · have : x = 0 := by omega
          rw [this]; simp
        · have h7 : x.natAbs / y.natAbs = x.natAbs := h4.symm.trans h5
          have h8 : y.natAbs = 1 := by
            rcases (by omega : y.natAbs = 0 ∨ y.natAbs = 1 ∨ 2 ≤ y.natAbs) with e0 | e1 | e2
            · omega
            · exact e1
            · have := Nat.div_lt_self (n := x.natAbs) (by omega) (show 1 < y.natAbs by omega)
              omega
          rcases (by omega : y = 1 ∨ y = -1) with rfl | rfl
          · simp
          · simp
      exact h0 h6
theorem len_zero {y : Int} : (digs 2 y.natAbs).length = 0 ↔ y = 0 := by
  constructor
  · intro h
    have h9 := nv_digs (b := 2) (by decide) y.natAbs
    rw [List.length_eq_zero_iff.1 h] at h9
    have : (0 : Nat) = y.natAbs := h9
    omega
  · rintro rfl; rw [show (0 : Int).natAbs = 0 from rfl, digs_zero]; rfl
/-- two slices of a call's own -/
theorem Ev.own2 {w0 w w' : World} {ts : List Th} (h : Ev w0 w ts) (hb : Below w.heap.size w w') {t t2 : TypeId} {A A2 : Option Addr} {n c n2 c2 : Nat} {xs xs2 : List Value} (ho : Own t w' w.heap.size A n c xs) (ho2 : Own t2 w' w.heap.size A2 n2 c2 xs2)
    (hap : ∀ g, A = some ⟨g, 0, none⟩ → A2 ≠ some ⟨g, 0, none⟩) : Ev w0 w' (.own t A n c xs :: .own t2 A2 n2 c2 xs2 :: ts) := by
  have h1 := h.own hb ho2
  refine ⟨h1.1, fun u hu => ?_, List.Pairwise.cons (fun u hu b e1 e2 => ?_) h1.2.2⟩
  · rcases List.mem_cons.1 hu with rfl | hu
    · exact ⟨Own.mono ho h.1.size, fun b e => by
        rcases Own.form ho with ⟨h3, _⟩ | ⟨g, h3, h4, h5⟩
        · rw [Th.blk, h3] at e; cases e
        · rw [Th.blk, h3] at e; cases e; exact ⟨Nat.le_trans h.1.size h4, h5⟩⟩
    · exact h1.2.1 u hu
  · rcases Own.form ho with ⟨h3, _⟩ | ⟨g, h3, h4, h5⟩
    · rw [Th.blk, h3] at e1; cases e1
    · rw [Th.blk, h3] at e1; cases e1
      rcases List.mem_cons.1 hu with rfl | hu
      · rcases Own.form ho2 with ⟨h6, _⟩ | ⟨g2, h6, _⟩
        · rw [Th.blk, h6] at e2; cases e2
        · rw [Th.blk, h6] at e2
          have e3 : g2 = g := by simpa using e2
          subst e3
          exact hap g2 h3 h6
      · have h7 := ((h.2.1 u hu).2 _ e2).2
        have h8 : w.heap.size ≤ g := h4
        simp at h7
        omega
end Go.Proofs.Ytggdmhkdmkldoaa

namespace Go.Proofs.Ytggdmhkdmkldoaa
open Go.RowKit Hb
set_option linter.unusedVariables false
set_option linter.unusedSimpArgs false

/-! ### the reference's Gcd -/
theorem SlI.half {w : World} {B b o c P : Nat} (h : SlI w B (some ⟨b, o, none⟩) (digs 2 P).length c (digs 2 P)) (hP : P ≠ 0) : SlI w B (some ⟨b, o + 1, none⟩) (digs 2 (P / 2)).length (c - 1) (digs 2 (P / 2)) := by
  have e := digs_half_len hP
  have h1 := h.cap
  have h2 := h.max
  refine ⟨rfl, by omega, by omega, dig_digs (by decide) _, fun hx => ?_⟩
  obtain ⟨b', o', hA, hb, hc⟩ := h.rd (i64s_ne (by omega))
  injection hA with hA
  injection hA with e1 e2
  subst e1; subst e2
  refine ⟨b, o + 1, rfl, hb, fun i v hi => ?_⟩
  rw [Nat.add_assoc, Nat.add_comm 1 i]
  refine hc (i + 1) v ?_
  rw [digs_pos (by decide) hP]
  exact hi
theorem SlI.farB {w : World} {B n c : Nat} {A : Option Addr} {l : List Nat} (h : SlI w B A n c l) {p : Addr} (hp : B ≤ p.block) (u : Value) : SlI (w.setCell p u) B A n c l :=
  ⟨h.len, h.cap, h.max, h.dig, fun hx => by
    obtain ⟨b, o, hA, hlt, hc⟩ := h.rd hx
    refine ⟨b, o, hA, hlt, fun i v hi => ?_⟩
    rw [← hc i v hi]
    exact World.cell?_of_block (Below.heap_setCell w p u b (by omega))⟩
def RdPost (w : World) (z : Int) (e : Ending) (w' : World) : Prop :=
  ∃ A c, e = .returned (.agg #[.bool (decide (z < 0)), .slice A (digs 2 z.natAbs).length c]) ∧ SlI w' w'.heap.size A (digs 2 z.natAbs).length c (digs 2 z.natAbs) ∧ Below w.heap.size w w'
theorem rlaid_rd {B : Nat} {A : Option Addr} {P c : Nat} {w : World} (h : SlI w B A (digs 2 P).length c (digs 2 P)) (hB : B ≤ w.heap.size) :
    Calls Try.prog 68 #[.bool false, .slice A (digs 2 P).length c] w fun e w' => e = .returned (.agg #[.bool false, .slice A (digs 2 P).length c]) ∧ Below w.heap.size w w' := by
  have h2 := rlaid_any false h hB
  rwa [tlen_of_nrm (nrm_digs (by decide) _)] at h2
/-- append of bits that are read, in a plain region -/
theorem wpList_append_manyI {ops : Array Oper} {rest : List Oper} {o : Oper} {a : Act} {Q : Exit → Act → World → Prop} {w : World} (hgd : o.guard = none) (s x : Operand)
    (ho : o.op = .call { callee := .builtin .append, args := #[s, x], argTypes := #[26, 26] })
    (base : Nat) (A : Option Addr) (n cp : Nat) (l0 : List Nat) (hs : a.eval s = .slice A n cp) (hown : OwnI w base A n cp (i64s l0))
    (B : Nat) (ad : Addr) (m c : Nat) (l : List Nat) (hx : a.eval x = .slice (some ad) m c) (hrd : SlI w B (some ad) m c l) (hm0 : 0 < m) (hn : n + m ≤ 67108864) (hbase : base ≤ w.heap.size)
    (h : ∀ A' c' w', OwnI w' base A' (n + m) c' (i64s (l0 ++ l)) → Below base w w' → wpList Try.prog ops Q rest (a.put o.dst (.slice A' (n + m) c')) w') : wpList Try.prog ops Q (o :: rest) a w := by
  obtain ⟨i0, hi, hz0, hz1, hz2⟩ := info_parts infoI
  refine wpList_append_own _ hgd s x 26 ho base 3 i0 (.int .i64 0) 1 8 Try.underlying26 hi hz0 hz1 hz2 rfl (by decide) _ n (i64s l0) hs hown ad m c (i64s l) hx (by rw [i64s_length, hrd.len]; simp) ?_ (i64s_one l) (by simp [maxLen]; omega) (by omega) hbase ?_
  · intro j u hj
    have hj2 : j < m := by
      rw [← hrd.len, ← i64s_length l]
      exact (List.getElem?_eq_some_iff.1 hj).1
    obtain ⟨b, o', h1, _, hc⟩ := hrd.at_ (by omega)
    obtain rfl := Option.some.inj h1
    rw [addr_add, hc j hj2, ← i64s_get (by rw [hrd.len]; exact hj2), hj]
  · intro v' w' hown' hg _
    have hf : ∃ A' c', v' = .slice A' (n + m) c' := by
      rcases hown'.2 with ⟨h1, h2⟩ | ⟨g', cap, cur, h1, _⟩
      · exact absurd h2 (by omega)
      · exact ⟨_, _, h1⟩
    obtain ⟨A', c', rfl⟩ := hf
    refine h A' c' w' (by have h3 := hown'; rw [i64s_append] at h3; exact h3) ⟨hg.os, hg.tape, hg.output, hg.size, fun j hj => hg.block j (by omega) ?_⟩
    rcases Own.form hown with ⟨rfl, _⟩ | ⟨g', rfl, h4, _⟩
    · simp [Value.ownBlock]
    · simp [Value.ownBlock]; omega
/-- at the head of the first loop: so many noughts are away -/
def GtRel (W1 : World) (B G N : Nat) (av bv tv : Value) (wr : World) (a b k : Nat) : Prop :=
  ∃ ga oa ca gb ob cb, av = .slice (some ⟨ga, oa, none⟩) (digs 2 a).length ca ∧ bv = .slice (some ⟨gb, ob, none⟩) (digs 2 b).length cb ∧ tv = .int .i64 (k : Int) ∧ SlI wr B (some ⟨ga, oa, none⟩) (digs 2 a).length ca (digs 2 a) ∧
    SlI wr B (some ⟨gb, ob, none⟩) (digs 2 b).length cb (digs 2 b) ∧ a ≠ 0 ∧ b ≠ 0 ∧ 2 ^ k * Nat.gcd a b = G ∧ (digs 2 a).length + k ≤ N ∧ (digs 2 b).length ≤ N ∧ Below W1.heap.size W1 wr
/-- at the head of the second: not both even -/
def GsRel (W1 : World) (G N g : Nat) (av bv : Value) (wr : World) : Prop :=
  ∃ a b A A' ca cb, av = .slice A (digs 2 a).length ca ∧ bv = .slice A' (digs 2 b).length cb ∧ SlI wr wr.heap.size A (digs 2 a).length ca (digs 2 a) ∧ SlI wr wr.heap.size A' (digs 2 b).length cb (digs 2 b) ∧
    b ≠ 0 ∧ (a % 2 = 1 ∨ b % 2 = 1) ∧ Nat.gcd a b = G ∧ a + b ≤ g ∧ (digs 2 a).length ≤ N ∧ (digs 2 b).length ≤ N ∧ Below W1.heap.size W1 wr
/-- an inner loop: one of the two is halved -/
def GhRel (wr0 : World) (b G g N : Nat) (av : Value) (wr : World) (a : Nat) : Prop :=
  ∃ ga oa ca, av = .slice (some ⟨ga, oa, none⟩) (digs 2 a).length ca ∧ SlI wr wr0.heap.size (some ⟨ga, oa, none⟩) (digs 2 a).length ca (digs 2 a) ∧ a ≠ 0 ∧ (a % 2 = 1 ∨ b % 2 = 1) ∧ Nat.gcd a b = G ∧ a ≤ g ∧ (digs 2 a).length ≤ N ∧ Below wr0.heap.size wr0 wr
theorem digs2_mono {a b : Nat} (h : a ≤ b) : (digs 2 a).length ≤ (digs 2 b).length := blen_mono h
theorem GhRel.next {wr0 wr : World} {b G g N a ga oa ca : Nat} (hs : SlI wr wr0.heap.size (some ⟨ga, oa, none⟩) (digs 2 a).length ca (digs 2 a)) (ha : a ≠ 0) (ho : a % 2 = 1 ∨ b % 2 = 1) (hg : Nat.gcd a b = G) (hl : a ≤ g) (hn : (digs 2 a).length ≤ N) (hb : Below wr0.heap.size wr0 wr) (he : a % 2 = 0) :
    GhRel wr0 b G g N (.slice (some ⟨ga, oa + 1, none⟩) (digs 2 (a / 2)).length (ca - 1)) wr (a / 2) := by
  have hbo : b % 2 = 1 := by omega
  exact ⟨ga, oa + 1, ca - 1, rfl, SlI.half hs ha, by omega, .inr hbo, by rw [gcd_half he hbo, hg], by omega, Nat.le_trans (digs2_mono (Nat.div_le_self _ _)) hn, hb⟩
theorem bits_slN {w : World} {B c P : Nat} {A : Option Addr} (h : OwnI w B A (digs 2 P).length c (i64s (digs 2 P))) : SlI w w.heap.size A (digs 2 P).length c (digs 2 P) := h.sl (dig_digs (by decide) _) rfl
theorem GsRel.next {W1 w5 w6 : World} {G N P Q gk : Nat} {A6 AQ : Option Addr} {c6 cQ : Nat} (hb : Below W1.heap.size W1 w5) (hb6 : Below w5.heap.size w5 w6) (ho : OwnI w6 w5.heap.size A6 (digs 2 (P - Q)).length c6 (i64s (digs 2 (P - Q)))) (hQ : SlI w5 w5.heap.size AQ (digs 2 Q).length cQ (digs 2 Q))
    (hle : Q ≤ P) (hQ0 : Q % 2 = 1) (hg : Nat.gcd P Q = G) (hs : P + Q ≤ gk) (hP : (digs 2 P).length ≤ N) (hQl : (digs 2 Q).length ≤ N) :
    GsRel W1 G N (gk - 1) (.slice A6 (digs 2 (P - Q)).length c6) (.slice AQ (digs 2 Q).length cQ) w6 ∧ gk - 1 < gk :=
  ⟨⟨P - Q, Q, A6, AQ, c6, cQ, rfl, rfl, bits_slN ho, (hQ.below hb6 (Nat.le_refl _)).mono hb6.size, by omega, .inr hQ0, by rw [gcd_less hle, hg], by omega, Nat.le_trans (digs2_mono (Nat.sub_le _ _)) hP, hQl, hb.trans (hb6.mono hb.size)⟩, by omega⟩
theorem sl_head {w : World} {B b o c P : Nat} (h : SlI w B (some ⟨b, o, none⟩) (digs 2 P).length c (digs 2 P)) (hP : P ≠ 0) : w.cell? ⟨b, o, none⟩ = some (.int .i64 ((P % 2 : Nat) : Int)) := by
  obtain ⟨b', o', e, _, hc⟩ := h.at_ (by rw [digs_half_len hP]; omega)
  injection e with e
  injection e with e1 e2
  subst e1; subst e2
  have := hc 0 (by rw [digs_half_len hP]; omega)
  rwa [digs_mod] at this
theorem RdPost.nat {w w' : World} {g : Nat} {A : Option Addr} {c : Nat} (hs : SlI w' w'.heap.size A (digs 2 g).length c (digs 2 g)) (hb : Below w.heap.size w w') :
    RdPost w (g : Int) (.returned (.agg #[.bool false, .slice A (digs 2 g).length c])) w' := by
  refine ⟨A, c, ?_, by rw [Int.natAbs_natCast]; exact hs, hb⟩
  rw [Int.natAbs_natCast, decide_eq_false (by omega)]
set_option maxRecDepth 100000 in
set_option maxHeartbeats 4000000 in
theorem rGcd_zero1 (sx sy : Bool) {a b B B' : Nat} {A A' : Option Addr} {c c' : Nat} {w : World} (hs : SlI w B A (digs 2 a).length c (digs 2 a)) (ht : SlI w B' A' (digs 2 b).length c' (digs 2 b)) (hB : B ≤ w.heap.size) (hB' : B' ≤ w.heap.size) (h0 : a = 0) :
    Calls Try.prog 56 #[.agg #[.bool sx, .slice A (digs 2 a).length c], .agg #[.bool sy, .slice A' (digs 2 b).length c']] w (RdPost w (Nat.gcd a b : Nat)) := by
  have HB := Lib.hid ((((Below.refl w.heap.size w).alloc (Nat.le_refl _) (.cells #[.bool sx, .slice A (digs 2 a).length c] 28)).alloc (by simp) (.cells #[.bool sy, .slice A' (digs 2 b).length c'] 28)).alloc (by simp; omega) (.cells #[.bool false, .slice none 0 0] 28))
  have HK := Lib.hid (fun C w2 (hb : Below C (((w.alloc (.cells #[.bool sx, .slice A (digs 2 a).length c] 28)).alloc (.cells #[.bool sy, .slice A' (digs 2 b).length c'] 28)).alloc (.cells #[.bool false, .slice none 0 0] 28)) w2) (hC : w.heap.size + 3 ≤ C) => three_boxes (Dr.refl _) hb hC)
  have HC3 := Lib.hid (show w.heap.size + 3 ≤ (((w.alloc (.cells #[.bool sx, .slice A (digs 2 a).length c] 28)).alloc (.cells #[.bool sy, .slice A' (digs 2 b).length c'] 28)).alloc (.cells #[.bool false, .slice none 0 0] 28)).heap.size by simp)
  have HT := Lib.hid (fun w1 (hb : Below w.heap.size w w1) => (ht.below (C := w.heap.size) hb hB').mono hB')
  have HL := Lib.hid (fun w1 (hb : Below w.heap.size w w1) => rlaid_rd (HT.out w1 hb) hb.size)
  have HG := Lib.hid (show Nat.gcd a b = b by rw [h0, Nat.gcd_zero_left])
  rw [HG.out]
  have hl0 : (digs 2 a).length = 0 := by rw [h0, digs_zero]; rfl
  clear hs ht hB hB'
  generalize (digs 2 a).length = na at *
  subst hl0
  generalize hnb : (digs 2 b).length = nb at *
  have HNB := Lib.hid hnb
  clear hnb h0 HG
  go_enter Try.func56, Try.ntmps56
  go_upto_region 1 with fail
  obtain ⟨⟨q0, q1⟩, ⟨q2, q3⟩, r0, r1, r2, r3⟩ := HK.out _ _ (Below.refl _ _) HC3.out
  generalize (((w.alloc (.cells #[.bool sx, .slice A 0 c] 28)).alloc (.cells #[.bool sy, .slice A' nb c'] 28)).alloc (.cells #[.bool false, .slice none 0 0] 28)) = W1 at *
  go_wp2_with fail
  (with_reducible refine (HL.out _ HB.out).mono ?_)
  rintro ex w5 ⟨rfl, hb5⟩
  have HB5 := Lib.hid hb5
  have hz5 := hb5.size
  obtain ⟨_, _, r0, r1, r2, r3⟩ := HK.out _ _ HB5.out HC3.out
  have HS5 := Lib.hid (HT.out _ (HB.out.trans (HB5.out.mono HB.out.size)))
  clear hb5
  go_wp2
  have hgb : w.heap.size ≤ w.heap.size + 1 + 1 := by omega
  have hr := RdPost.nat (w := w) (g := b) (by rw [HNB.out]; exact (SlI.farB (SlI.farB HS5.out (p := ⟨w.heap.size + 1 + 1, 0, none⟩) hgb (.bool false)) (p := ⟨w.heap.size + 1 + 1, 1, none⟩) hgb (.slice A' nb c')).mono ((((HB.out.trans (HB5.out.mono HB.out.size)).setCell (p := ⟨w.heap.size + 1 + 1, 0, none⟩) hgb (.bool false)).setCell (p := ⟨w.heap.size + 1 + 1, 1, none⟩) hgb (.slice A' nb c')).size)) (((HB.out.trans (HB5.out.mono HB.out.size)).setCell (p := ⟨w.heap.size + 1 + 1, 0, none⟩) hgb (.bool false)).setCell (p := ⟨w.heap.size + 1 + 1, 1, none⟩) hgb (.slice A' nb c'))
  rw [HNB.out] at hr
  exact bodyPost_ret (v := .agg #[.bool false, .slice A' nb c']) (by simp [results, Try.results56, go_sem, r0, r1]) rfl hr
set_option maxRecDepth 100000 in
set_option maxHeartbeats 4000000 in
theorem rGcd_zero2 (sx sy : Bool) {a b B B' : Nat} {A A' : Option Addr} {c c' : Nat} {w : World} (hs : SlI w B A (digs 2 a).length c (digs 2 a)) (ht : SlI w B' A' (digs 2 b).length c' (digs 2 b)) (hB : B ≤ w.heap.size) (hB' : B' ≤ w.heap.size) (ha : a ≠ 0) (h0 : b = 0) :
    Calls Try.prog 56 #[.agg #[.bool sx, .slice A (digs 2 a).length c], .agg #[.bool sy, .slice A' (digs 2 b).length c']] w (RdPost w (Nat.gcd a b : Nat)) := by
  have HB := Lib.hid ((((Below.refl w.heap.size w).alloc (Nat.le_refl _) (.cells #[.bool sx, .slice A (digs 2 a).length c] 28)).alloc (by simp) (.cells #[.bool sy, .slice A' (digs 2 b).length c'] 28)).alloc (by simp; omega) (.cells #[.bool false, .slice none 0 0] 28))
  have HK := Lib.hid (fun C w2 (hb : Below C (((w.alloc (.cells #[.bool sx, .slice A (digs 2 a).length c] 28)).alloc (.cells #[.bool sy, .slice A' (digs 2 b).length c'] 28)).alloc (.cells #[.bool false, .slice none 0 0] 28)) w2) (hC : w.heap.size + 3 ≤ C) => three_boxes (Dr.refl _) hb hC)
  have HC3 := Lib.hid (show w.heap.size + 3 ≤ (((w.alloc (.cells #[.bool sx, .slice A (digs 2 a).length c] 28)).alloc (.cells #[.bool sy, .slice A' (digs 2 b).length c'] 28)).alloc (.cells #[.bool false, .slice none 0 0] 28)).heap.size by simp)
  have HT := Lib.hid (fun w1 (hb : Below w.heap.size w w1) => (hs.below (C := w.heap.size) hb hB).mono hB)
  have HL := Lib.hid (fun w1 (hb : Below w.heap.size w w1) => rlaid_rd (HT.out w1 hb) hb.size)
  have HG := Lib.hid (show Nat.gcd a b = a by rw [h0, Nat.gcd_zero_right])
  rw [HG.out]
  have hl0 : (digs 2 b).length = 0 := by rw [h0, digs_zero]; rfl
  have hl1 : (((digs 2 a).length : Int) == 0) = false := beq_eq_false_iff_ne.2 (by rw [digs_half_len ha]; omega)
  clear hs ht hB hB'
  generalize (digs 2 b).length = nb at *
  subst hl0
  generalize hna : (digs 2 a).length = na at *
  have HNB := Lib.hid hna
  clear hna h0 HG ha
  go_enter Try.func56, Try.ntmps56
  go_upto_region 1 with fail
  obtain ⟨⟨q0, q1⟩, ⟨q2, q3⟩, r0, r1, r2, r3⟩ := HK.out _ _ (Below.refl _ _) HC3.out
  generalize (((w.alloc (.cells #[.bool sx, .slice A na c] 28)).alloc (.cells #[.bool sy, .slice A' 0 c'] 28)).alloc (.cells #[.bool false, .slice none 0 0] 28)) = W1 at *
  go_wp2_with fail
  (with_reducible refine (HL.out _ HB.out).mono ?_)
  rintro ex w5 ⟨rfl, hb5⟩
  have HB5 := Lib.hid hb5
  have hz5 := hb5.size
  obtain ⟨_, _, r0, r1, r2, r3⟩ := HK.out _ _ HB5.out HC3.out
  have HS5 := Lib.hid (HT.out _ (HB.out.trans (HB5.out.mono HB.out.size)))
  clear hb5
  go_wp2
  have hgb : w.heap.size ≤ w.heap.size + 1 + 1 := by omega
  have hr := RdPost.nat (w := w) (g := a) (by rw [HNB.out]; exact (SlI.farB (SlI.farB HS5.out (p := ⟨w.heap.size + 1 + 1, 0, none⟩) hgb (.bool false)) (p := ⟨w.heap.size + 1 + 1, 1, none⟩) hgb (.slice A na c)).mono ((((HB.out.trans (HB5.out.mono HB.out.size)).setCell (p := ⟨w.heap.size + 1 + 1, 0, none⟩) hgb (.bool false)).setCell (p := ⟨w.heap.size + 1 + 1, 1, none⟩) hgb (.slice A na c)).size)) (((HB.out.trans (HB5.out.mono HB.out.size)).setCell (p := ⟨w.heap.size + 1 + 1, 0, none⟩) hgb (.bool false)).setCell (p := ⟨w.heap.size + 1 + 1, 1, none⟩) hgb (.slice A na c))
  rw [HNB.out] at hr
  exact bodyPost_ret (v := .agg #[.bool false, .slice A na c]) (by simp [results, Try.results56, go_sem, r0, r1]) rfl hr
set_option maxRecDepth 100000 in
set_option maxHeartbeats 4000000 in
theorem rGcd_pos (sx sy : Bool) {a b B B' : Nat} {A A' : Option Addr} {c c' : Nat} {w : World} (hs : SlI w B A (digs 2 a).length c (digs 2 a)) (ht : SlI w B' A' (digs 2 b).length c' (digs 2 b)) (hB : B ≤ w.heap.size) (hB' : B' ≤ w.heap.size) (ha : a ≠ 0) (hb0 : b ≠ 0) (hna : (digs 2 a).length ≤ 33554432) (hnb : (digs 2 b).length ≤ 33554432) :
    Calls Try.prog 56 #[.agg #[.bool sx, .slice A (digs 2 a).length c], .agg #[.bool sy, .slice A' (digs 2 b).length c']] w (RdPost w (Nat.gcd a b : Nat)) := by
  have HB := Lib.hid ((((Below.refl w.heap.size w).alloc (Nat.le_refl _) (.cells #[.bool sx, .slice A (digs 2 a).length c] 28)).alloc (by simp) (.cells #[.bool sy, .slice A' (digs 2 b).length c'] 28)).alloc (by simp; omega) (.cells #[.bool false, .slice none 0 0] 28))
  have HK := Lib.hid (fun C w2 (hb : Below C (((w.alloc (.cells #[.bool sx, .slice A (digs 2 a).length c] 28)).alloc (.cells #[.bool sy, .slice A' (digs 2 b).length c'] 28)).alloc (.cells #[.bool false, .slice none 0 0] 28)) w2) (hC : w.heap.size + 3 ≤ C) => three_boxes (Dr.refl _) hb hC)
  have HC3 := Lib.hid (show w.heap.size + 3 ≤ (((w.alloc (.cells #[.bool sx, .slice A (digs 2 a).length c] 28)).alloc (.cells #[.bool sy, .slice A' (digs 2 b).length c'] 28)).alloc (.cells #[.bool false, .slice none 0 0] 28)).heap.size by simp)
  have HS := Lib.hid ((hs.below (C := w.heap.size) HB.out hB).mono hB)
  have HT := Lib.hid ((ht.below (C := w.heap.size) HB.out hB').mono hB')
  have e1 := digs_half_len ha
  have e2 := digs_half_len hb0
  obtain ⟨ga, oa, rfl, _, _⟩ := hs.at_ (by omega)
  obtain ⟨gb, ob, rfl, _, _⟩ := ht.at_ (by omega)
  have HR0 := Lib.hid (show GtRel (((w.alloc (.cells #[.bool sx, .slice (some ⟨ga, oa, none⟩) (digs 2 a).length c] 28)).alloc (.cells #[.bool sy, .slice (some ⟨gb, ob, none⟩) (digs 2 b).length c'] 28)).alloc (.cells #[.bool false, .slice none 0 0] 28)) w.heap.size (Nat.gcd a b) 33554432 (.slice (some ⟨ga, oa, none⟩) (digs 2 a).length c) (.slice (some ⟨gb, ob, none⟩) (digs 2 b).length c') (.int .i64 0) (((w.alloc (.cells #[.bool sx, .slice (some ⟨ga, oa, none⟩) (digs 2 a).length c] 28)).alloc (.cells #[.bool sy, .slice (some ⟨gb, ob, none⟩) (digs 2 b).length c'] 28)).alloc (.cells #[.bool false, .slice none 0 0] 28)) a b 0 from
    ⟨ga, oa, c, gb, ob, c', rfl, rfl, rfl, HS.out, HT.out, ha, hb0, by simp, by omega, by omega, Below.refl _ _⟩)
  have hl1 : (((digs 2 a).length : Int) == 0) = false := beq_eq_false_iff_ne.2 (by omega)
  have hl2 : (((digs 2 b).length : Int) == 0) = false := beq_eq_false_iff_ne.2 (by omega)
  generalize hG : Nat.gcd a b = G at *
  clear hG hs ht hB hB' ha hb0 e1 e2 HS HT
  generalize (digs 2 a).length = na at *
  generalize (digs 2 b).length = nb at *
  go_enter Try.func56, Try.ntmps56
  go_upto_region 1 with fail
  obtain ⟨⟨q0, q1⟩, ⟨q2, q3⟩, r0, r1, r2, r3⟩ := HK.out _ _ (Below.refl _ _) HC3.out
  generalize (((w.alloc (.cells #[.bool sx, .slice (some ⟨ga, oa, none⟩) na c] 28)).alloc (.cells #[.bool sy, .slice (some ⟨gb, ob, none⟩) nb c'] 28)).alloc (.cells #[.bool false, .slice none 0 0] 28)) = W1 at *
  go_wp2_with fail
  go_loopw [5, 6, 7] (fun av bv tv wr => ∃ a b k : Nat, GtRel W1 w.heap.size G 33554432 av bv tv wr a b k) (fun av _ _ _ => match av with | .slice _ n _ => n | _ => 0)
  case atStart => exact ⟨a, b, 0, HR0.out⟩
  case round =>
    obtain ⟨a, b, k, ga, oa, ca, gb, ob, cb, rfl, rfl, rfl, hsa, hsb, ha, hb, hgc, hla, hlb, hbw⟩ := hrel
    have hla1 := digs_half_len ha
    have hlb1 := digs_half_len hb
    have hca := sl_head hsa ha
    have hcb := sl_head hsb hb
    have hna1 : 1 ≤ (digs 2 a).length := by omega
    have hnb1 : 1 ≤ (digs 2 b).length := by omega
    have hca1 := hsa.cap
    have hcb1 := hsb.cap
    have HB1 := Lib.hid hbw
    have HN := Lib.hid (fun (e1 : a % 2 = 0) (e2 : b % 2 = 0) => show GtRel W1 w.heap.size G 33554432 (.slice (some ⟨ga, oa + 1, none⟩) ((digs 2 a).length - 1) (ca - 1)) (.slice (some ⟨gb, ob + 1, none⟩) ((digs 2 b).length - 1) (cb - 1)) (.int .i64 ((k + 1 : Nat) : Int)) wr (a / 2) (b / 2) (k + 1) from
      ⟨ga, oa + 1, ca - 1, gb, ob + 1, cb - 1, by rw [hla1]; rfl, by rw [hlb1]; rfl, rfl, SlI.half hsa ha, SlI.half hsb hb, by omega, by omega, gcd_twos e1 e2 hgc, by omega, by omega, hbw⟩)
    obtain ⟨na1, hna2⟩ : ∃ n, (digs 2 a).length = n := ⟨_, rfl⟩
    obtain ⟨nb1, hnb2⟩ : ∃ n, (digs 2 b).length = n := ⟨_, rfl⟩
    have hk9 : k ≤ 33554432 := by omega
    have HE := Lib.hid (And.intro hsa (And.intro hsb (And.intro ha (And.intro hb hgc))))
    rw [hna2] at hna1 hca1 HN ⊢
    rw [hnb2] at hnb1 hcb1 HN ⊢
    have HNA := Lib.hid (And.intro hna2 hnb2)
    by_cases hev : a % 2 = 0 ∧ b % 2 = 0
    · have HN2 := Lib.hid (HN.out hev.1 hev.2)
      have hla2 := digs_half_len (P := a / 2) (by have := hev.1; omega)
      have hlb2 := digs_half_len (P := b / 2) (by have := hev.2; omega)
      have hca9 : ¬ ca = 1 := by omega
      have hcb9 : ¬ cb = 1 := by omega
      rw [hev.1] at hca
      rw [hev.2] at hcb
      clear hla2 hlb2
      clear hsa hsb ha hb hgc hla hlb hbw hla1 hlb1 hna2 hnb2 hev HN HR0
      have hkI : (k : Int) ≤ 33554432 := by omega
      go_wp2_with fail
      go_roundw
      case rel => exact ⟨_, _, _, HN2.out⟩
      case measure => show na1 - 1 < na1; omega
    · have HP := Lib.hid (show a % 2 = 1 ∨ b % 2 = 1 by omega)
      have HS0 := Lib.hid (show GsRel W1 (Nat.gcd a b) 33554432 (a + b) (.slice (some ⟨ga, oa, none⟩) na1 ca) (.slice (some ⟨gb, ob, none⟩) nb1 cb) wr from
        ⟨a, b, _, _, ca, cb, by rw [hna2], by rw [hnb2], hsa.mono (Nat.le_trans HB.out.size hbw.size), hsb.mono (Nat.le_trans HB.out.size hbw.size), hb, HP.out, rfl, Nat.le_refl _, by omega, by omega, hbw⟩)
      have HGk := Lib.hid hgc
      clear hsa hsb ha hb hgc hla hlb hbw hla1 hlb1 hna2 hnb2 HN HR0 HNA HE
      have hq : (((a % 2 : Nat) : Int) == 0) = true ∧ (((b % 2 : Nat) : Int) == 0) = false ∨ (((a % 2 : Nat) : Int) == 0) = false := by
        have := HP.out
        by_cases h : a % 2 = 0
        · left
          exact ⟨by rw [h]; rfl, beq_eq_false_iff_ne.2 (by omega)⟩
        · right; exact beq_eq_false_iff_ne.2 (by omega)
      generalize hg0 : Nat.gcd a b = g0 at *
      generalize hm0 : a + b = m0 at *
      clear hg0 hm0
      generalize ((a % 2 : Nat) : Int) = pa at *
      generalize ((b % 2 : Nat) : Int) = pb at *
      clear HP hev
      obtain ⟨w2, hw2⟩ : ∃ w2 : World, w2 = wr := ⟨_, rfl⟩
      subst hw2
      rcases hq with ⟨hq1, hq2⟩ | hq1
      all_goals
        go_upto_region 12 with fail
        go_loopg [5, 6] m0 (fun g av bv wr => GsRel W1 g0 33554432 g av bv wr)
        case atStart => exact HS0.out
        case round =>
          obtain ⟨a, b, A3, A4, ca, cb, rfl, rfl, hsa, hsb, hb, hpo, hgc, hle, hla, hlb, hbw⟩ := hrel
          have hbz := hbw.size
          have HBW := Lib.hid hbw
          by_cases ha : a = 0
          · have hn0 : (digs 2 a).length = 0 := by rw [ha, digs_zero]; rfl
            have HGb := Lib.hid (show b = g0 by rw [← hgc, ha, Nat.gcd_zero_left])
            have HSb := Lib.hid hsb
            have hd0 : decide ((0 : Int) < (0 : Int)) = false := rfl
            clear hsa hsb hpo hgc hle hla hbw HS0
            generalize (digs 2 a).length = na9 at *
            subst hn0
            generalize hnb9 : (digs 2 b).length = nb9 at *
            have HNB := Lib.hid hnb9
            have hnbp : 0 < nb9 := by rw [← hnb9]; rw [digs_half_len hb]; omega
            have hk9 : k + nb9 ≤ 67108864 := by omega
            obtain ⟨xb, ob, rfl, _, _⟩ := HSb.out.at_ hnbp
            have HV := Lib.hid (show bval false (List.replicate k 0 ++ digs 2 b) = (G : Int) by
              rw [bval, if_neg (by simp), nv_twos, HGb.out, HGk.out])
            have HD := Lib.hid (dig_twos k b)
            have HLn := Lib.hid (show (List.replicate k 0 ++ digs 2 b).length = k + nb9 by simp [HNB.out])
            have hmk := makeI k (by omega)
            have HO := Lib.hid (own_zerosI wr (B := wr.heap.size) k (Nat.le_refl _) (by simp [maxLen]; omega))
            have HSb2 := Lib.hid (HSb.out.below ((Below.refl wr.heap.size wr).alloc (Nat.le_refl _) (.cells (madeCells #[.int .i64 0] k) 3)) (Nat.le_refl _))
            have HBk := Lib.hid ((Below.refl wr.heap.size wr).alloc (Nat.le_refl _) (.cells (madeCells #[.int .i64 0] k) 3))
            clear hnb9 ha hb hlb
            go_wp2_with (at_builtin; refine wpList_append_manyI (by rfl) _ _ (by rfl) wr.heap.size (some ⟨wr.heap.size, 0, none⟩) k k (List.replicate k 0) (by rfl) HO.out wr.heap.size ⟨xb, ob, none⟩ nb9 cb (digs 2 b) (by rfl) HSb2.out hnbp hk9 HBk.out.size ?_; intro A7 c7 w7 ho7 hb7)
            have HO7 := Lib.hid ho7
            have HB7 := Lib.hid (HBk.out.trans hb7)
            clear ho7 hb7
            go_wp2_with fail
            (with_reducible refine (rlaid_at false HO7.out HLn.out HD.out HV.out).mono ?_)
            rintro ex w8 ⟨rfl, ho8, hb8⟩
            have hz7 := HB7.out.size
            have HBw8 := Lib.hid (HBW.out.trans ((HB7.out.trans (hb8.mono hz7)).mono hbz))
            obtain ⟨_, _, r0, r1, r2, r3⟩ := HK.out _ _ HBw8.out HC3.out
            have HO8 := Lib.hid ho8
            have HBx8 := Lib.hid (HB.out.trans (HBw8.out.mono HB.out.size))
            have hwz : w.heap.size + 1 + 1 < wr.heap.size := by have := HC3.out; omega
            clear ho8 hb8
            go_wp2
            have hr := ResB.stored (w := w) (g := w.heap.size + 1 + 1) (u := .bool (decide ((G : Int) < 0))) (u' := .slice A7 (digs 2 (G : Int).natAbs).length c7) ⟨A7, c7, rfl, HO8.out⟩ HBx8.out hwz (by omega)
            obtain ⟨⟨A9, c9, hv9, ho9⟩, hb9⟩ := hr
            exact bodyPost_ret (v := .agg #[.bool (decide ((G : Int) < 0)), .slice A7 (digs 2 (G : Int).natAbs).length c7]) (by simp [results, Try.results56, go_sem, r0, r1]) rfl ⟨A9, c9, by rw [hv9], bits_sl ho9, hb9⟩
          · have hla1 := digs_half_len ha
            have hlb1 := digs_half_len hb
            obtain ⟨xa, oa, rfl, hxa, _⟩ := hsa.at_ (by omega)
            obtain ⟨xb, ob, rfl, hxb, _⟩ := hsb.at_ (by omega)
            have HA0 := Lib.hid (show GhRel wr b g0 a 33554432 (.slice (some ⟨xa, oa, none⟩) (digs 2 a).length ca) wr a from ⟨xa, oa, ca, rfl, hsa, ha, hpo, hgc, Nat.le_refl _, hla, Below.refl _ _⟩)
            have hna1 : (0 : Int) < ((digs 2 a).length : Int) := by omega
            have HSb := Lib.hid hsb
            have HF := Lib.hid (And.intro hb (And.intro hle hlb))
            clear hsa hsb hb hpo hgc hle hla hlb hbw hla1 hlb1 HS0
            generalize hnb9 : (digs 2 b).length = nb9 at *
            have HNB := Lib.hid hnb9
            clear hnb9
            obtain ⟨w3, hw3⟩ : ∃ w3 : World, w3 = wr := ⟨_, rfl⟩
            subst hw3
            go_upto_region 13 with fail
            go_loopw [5] (fun av wr => ∃ a9 : Nat, GhRel w3 b g0 a 33554432 av wr a9) (fun av _ => match av with | .slice _ n _ => n | _ => 0)
            case atStart => exact ⟨a, HA0.out⟩
            case round =>
              obtain ⟨a9, ga, oa, ca, rfl, hsa, ha9, hpo, hgc, hle, hla, hbw⟩ := hrel
              have hla1 := digs_half_len ha9
              have hca := sl_head hsa ha9
              have hca1 := hsa.cap
              have hbz2 := hbw.size
              have HN := Lib.hid (fun (e1 : a9 % 2 = 0) => show GhRel w3 b g0 a 33554432 (.slice (some ⟨ga, oa + 1, none⟩) ((digs 2 a9).length - 1) (ca - 1)) wr (a9 / 2) from by
                have h := GhRel.next hsa ha9 hpo hgc hle hla hbw e1
                rwa [show (digs 2 (a9 / 2)).length = (digs 2 a9).length - 1 by omega] at h)
              by_cases hpa : a9 % 2 = 0
              · have HN2 := Lib.hid (HN.out hpa)
                have hla2 := digs_half_len (P := a9 / 2) (by omega)
                have hca9 : ¬ ca = 1 := by omega
                rw [hpa] at hca
                obtain ⟨na1, hna2⟩ : ∃ n, (digs 2 a9).length = n := ⟨_, rfl⟩
                have hna3 : 1 ≤ na1 := by omega
                rw [hna2] at HN2 hca1 ⊢
                clear hla2 hsa ha9 hpo hgc hle hla hbw hla1 hpa HN HA0 hna2
                go_wp2_with fail
                go_roundw
                case rel => exact ⟨_, HN2.out⟩
                case measure => show na1 - 1 < na1; omega
              · have hqa : (((a9 % 2 : Nat) : Int) == 0) = false := beq_eq_false_iff_ne.2 (by omega)
                have HB3 := Lib.hid (HBW.out.trans (hbw.mono hbz))
                have HSb4 := Lib.hid (((HSb.out).below hbw (Nat.le_refl _)).mono hbz2)
                have HF4 := Lib.hid (And.intro ha9 (And.intro (show a9 % 2 = 1 by omega) (And.intro hgc (And.intro hle (And.intro hla (hsa.mono hbz2))))))
                have hnb9 := HNB.out
                have hlb1 := digs_half_len HF.out.1
                have HB0 := Lib.hid (show GhRel wr a9 g0 b 33554432 (.slice (some ⟨xb, ob, none⟩) nb9 cb) wr b from ⟨xb, ob, cb, by rw [hnb9], by rw [hnb9]; exact HSb4.out, HF.out.1, .inr (by omega), by rw [Nat.gcd_comm]; exact hgc, Nat.le_refl _, by rw [hnb9]; exact HF.out.2.2, Below.refl _ _⟩)
                have hna1' : 1 ≤ (digs 2 a9).length := by omega
                have hnb1' : 1 ≤ nb9 := by omega
                clear hsa ha9 hpo hgc hle hla hbw hla1 HN HA0 hnb9 hlb1 hpa
                generalize ((a9 % 2 : Nat) : Int) = pa at *
                generalize hna9 : (digs 2 a9).length = na9 at *
                have HNA9 := Lib.hid hna9
                clear hna9
                obtain ⟨w4, hw4⟩ : ∃ w4 : World, w4 = wr := ⟨_, rfl⟩
                subst hw4
                go_upto_region 15 with fail
                go_loopw [6] (fun bv wr => ∃ b9 : Nat, GhRel w4 a9 g0 b 33554432 bv wr b9) (fun bv _ => match bv with | .slice _ n _ => n | _ => 0)
                case atStart => exact ⟨b, HB0.out⟩
                case round =>
                  obtain ⟨b9, gb, ob9, cb9, rfl, hsb, hb9, hpo, hgc, hle, hlb, hbw⟩ := hrel
                  have hlb1 := digs_half_len hb9
                  have hcb := sl_head hsb hb9
                  have hcb1 := hsb.cap
                  have hbz3 := hbw.size
                  have HN := Lib.hid (fun (e1 : b9 % 2 = 0) => show GhRel w4 a9 g0 b 33554432 (.slice (some ⟨gb, ob9 + 1, none⟩) ((digs 2 b9).length - 1) (cb9 - 1)) wr (b9 / 2) from by
                    have h := GhRel.next hsb hb9 hpo hgc hle hlb hbw e1
                    rwa [show (digs 2 (b9 / 2)).length = (digs 2 b9).length - 1 by omega] at h)
                  by_cases hpb : b9 % 2 = 0
                  · have HN2 := Lib.hid (HN.out hpb)
                    have hlb2 := digs_half_len (P := b9 / 2) (by omega)
                    have hcb9 : ¬ cb9 = 1 := by omega
                    rw [hpb] at hcb
                    obtain ⟨nb1, hnb2⟩ : ∃ n, (digs 2 b9).length = n := ⟨_, rfl⟩
                    have hnb3 : 1 ≤ nb1 := by omega
                    rw [hnb2] at HN2 hcb1 ⊢
                    clear hlb2 hsb hb9 hpo hgc hle hlb hbw hlb1 hpb HN HB0 hnb2
                    go_wp2_with fail
                    go_roundw
                    case rel => exact ⟨_, HN2.out⟩
                    case measure => show nb1 - 1 < nb1; omega
                  · have hqb : (((b9 % 2 : Nat) : Int) == 0) = false := beq_eq_false_iff_ne.2 (by omega)
                    have hna9 := HNA9.out
                    have hsa := HF4.out.2.2.2.2.2
                    have hsa2 := (hsa.below (C := w4.heap.size) hbw (Nat.le_refl _)).mono hbz3
                    have hle2 := HF4.out.2.2.2.1
                    have hle3 := HF.out.2.1
                    have hodd := HF4.out.2.1
                    have hlaN := HF4.out.2.2.2.2.1
                    have HB4 := Lib.hid (HB3.out.trans (hbw.mono HB3.out.size))
                    have HSB := Lib.hid (hsb.mono hbz3)
                    have HSA := Lib.hid hsa2
                    have HFin := Lib.hid (And.intro hlaN (And.intro hlb (And.intro hodd (And.intro (show b9 % 2 = 1 by omega) (And.intro hgc (show a9 + b9 ≤ gk by omega))))))
                    generalize hnb9 : (digs 2 b9).length = nb9' at *
                    have HNB9 := Lib.hid hnb9
                    have hnbp : 1 ≤ nb9' := by omega
                    clear hsa hsa2 hsb hb9 hpo hgc hle hlb hbw hlb1 hpb HN HB0 hna9 hle2 hle3 hodd hlaN hnb9
                    generalize ((b9 % 2 : Nat) : Int) = pb at *
                    go_upto_region 17 with fail
                    by_cases hlt : a9 < b9
                    ·
                      have HL := Lib.hid (show Calls Try.prog 86 #[.slice (some ⟨ga, oa, none⟩) na9 ca, .slice (some ⟨gb, ob9, none⟩) nb9' cb9] wr (fun e w' => e = .returned (.bool true) ∧ Dr wr w') from
                        rless_any HSA.out HSB.out (fun _ => ⟨nrm_digs (by decide) _, nrm_digs (by decide) _⟩) (by rw [nv_digs (by decide), nv_digs (by decide)]; exact decide_eq_true hlt))
                      have hPQ : a9 ≤ b9 := by omega
                      clear hlt
                      go_wp2_with fail
                      (with_reducible refine HL.out.mono ?_)
                      rintro ex w5 ⟨rfl, hdr⟩
                      have HB5 := Lib.hid (HB4.out.trans ((hdr.below wr.heap.size).mono HB4.out.size))
                      have HP5 := Lib.hid (HSB.out.below (hdr.below wr.heap.size) (Nat.le_refl _))
                      have HQ5 := Lib.hid (HSA.out.below (hdr.below wr.heap.size) (Nat.le_refl _))
                      have hz5 : wr.heap.size ≤ w5.heap.size := (hdr.below wr.heap.size).size
                      have HSu := Lib.hid (rsub_any HP5.out HQ5.out (by have := HFin.out.2.1; have := HNB9.out; omega) hz5 hz5 (by have := digs2_mono hPQ; have := HNB9.out; have := HNA9.out; omega) (by rw [nv_digs (by decide), nv_digs (by decide)]; exact hPQ))
                      rw [nv_digs (by decide), nv_digs (by decide)] at HSu
                      have HNx := Lib.hid (fun w6 A6 c6 hb6 ho => GsRel.next (W1 := W1) (G := g0) (N := 33554432) (gk := gk) (w6 := w6) (A6 := A6) (c6 := c6) HB5.out hb6 ho (by rw [HNA9.out]; exact HQ5.out.mono hz5) hPQ HFin.out.2.2.1 HFin.out.2.2.2.2.1 (by have := HFin.out.2.2.2.2.2; omega) (by rw [HNB9.out]; exact HFin.out.2.1) (by rw [HNA9.out]; exact HFin.out.1))
                      clear hdr hPQ
                      go_wp2_with fail
                      (with_reducible refine HSu.out.mono ?_)
                      rintro ex w6 ⟨A6, c6, rfl, ho6, hb6⟩
                      have HQ6 := Lib.hid (HNx.out w6 A6 c6 hb6 ho6)
                      rw [HNA9.out] at HQ6
                      clear ho6 hb6
                      go_wp2_with fail
                      go_roundg (gk - 1)
                      case measure => exact HQ6.out.2
                      case rel => exact HQ6.out.1
                    ·
                      have HL := Lib.hid (show Calls Try.prog 86 #[.slice (some ⟨ga, oa, none⟩) na9 ca, .slice (some ⟨gb, ob9, none⟩) nb9' cb9] wr (fun e w' => e = .returned (.bool false) ∧ Dr wr w') from
                        rless_any HSA.out HSB.out (fun _ => ⟨nrm_digs (by decide) _, nrm_digs (by decide) _⟩) (by rw [nv_digs (by decide), nv_digs (by decide)]; exact decide_eq_false hlt))
                      have hPQ : b9 ≤ a9 := by omega
                      clear hlt
                      go_wp2_with fail
                      (with_reducible refine HL.out.mono ?_)
                      rintro ex w5 ⟨rfl, hdr⟩
                      have HB5 := Lib.hid (HB4.out.trans ((hdr.below wr.heap.size).mono HB4.out.size))
                      have HP5 := Lib.hid (HSA.out.below (hdr.below wr.heap.size) (Nat.le_refl _))
                      have HQ5 := Lib.hid (HSB.out.below (hdr.below wr.heap.size) (Nat.le_refl _))
                      have hz5 : wr.heap.size ≤ w5.heap.size := (hdr.below wr.heap.size).size
                      have HSu := Lib.hid (rsub_any HP5.out HQ5.out (by have := HFin.out.1; have := HNA9.out; omega) hz5 hz5 (by have := digs2_mono hPQ; have := HNA9.out; have := HNB9.out; omega) (by rw [nv_digs (by decide), nv_digs (by decide)]; exact hPQ))
                      rw [nv_digs (by decide), nv_digs (by decide)] at HSu
                      have HNx := Lib.hid (fun w6 A6 c6 hb6 ho => GsRel.next (W1 := W1) (G := g0) (N := 33554432) (gk := gk) (w6 := w6) (A6 := A6) (c6 := c6) HB5.out hb6 ho (by rw [HNB9.out]; exact HQ5.out.mono hz5) hPQ HFin.out.2.2.2.1 (by rw [Nat.gcd_comm]; exact HFin.out.2.2.2.2.1) (by have := HFin.out.2.2.2.2.2; omega) (by rw [HNA9.out]; exact HFin.out.1) (by rw [HNB9.out]; exact HFin.out.2.1))
                      clear hdr hPQ
                      go_wp2_with fail
                      (with_reducible refine HSu.out.mono ?_)
                      rintro ex w6 ⟨A6, c6, rfl, ho6, hb6⟩
                      have HQ6 := Lib.hid (HNx.out w6 A6 c6 hb6 ho6)
                      rw [HNB9.out] at HQ6
                      clear ho6 hb6
                      go_wp2_with fail
                      go_roundg (gk - 1)
                      case measure => exact HQ6.out.2
                      case rel => exact HQ6.out.1
theorem rGcd_any {x y : Int} {g : Nat} {B B' : Nat} {A A' : Option Addr} {c c' : Nat} {w : World} (hs : SlI w B A (digs 2 x.natAbs).length c (digs 2 x.natAbs)) (ht : SlI w B' A' (digs 2 y.natAbs).length c' (digs 2 y.natAbs)) (hB : B ≤ w.heap.size) (hB' : B' ≤ w.heap.size) (hn : (digs 2 x.natAbs).length ≤ 33554432) (hn' : (digs 2 y.natAbs).length ≤ 33554432) (hg : Nat.gcd x.natAbs y.natAbs = g) :
    Calls Try.prog 56 #[.agg #[.bool (decide (x < 0)), .slice A (digs 2 x.natAbs).length c], .agg #[.bool (decide (y < 0)), .slice A' (digs 2 y.natAbs).length c']] w (RdPost w (g : Int)) := by
  subst hg
  by_cases ha : x.natAbs = 0
  · exact rGcd_zero1 _ _ hs ht hB hB' ha
  · by_cases hb : y.natAbs = 0
    · exact rGcd_zero2 _ _ hs ht hB hB' ha hb
    · exact rGcd_pos _ _ hs ht hB hB' ha hb hn hn'
end Go.Proofs.Ytggdmhkdmkldoaa

namespace Go.Proofs.Ytggdmhkdmkldoaa
open Go.RowKit Hb
set_option linter.unusedVariables false
set_option linter.unusedSimpArgs false

/-! ### a variable of the reference's integer -/
def Bb (w : World) (g : Nat) (x y : Value) : Prop := w.heap[g]? = some (.cells #[x, y] 28 (0, 0))
section
variable {w w' : World} {g C : Nat} {x y : Value} {p : Addr}
theorem Bb.below (h : Bb w g x y) (hb : Below C w w') (hg : g < C) : Bb w' g x y := (hb.block g hg).trans h
theorem Bb.facts (h : Bb w g x y) : w.cell? ⟨g, 0, none⟩ = some x ∧ w.cell? ⟨g, 1, none⟩ = some y ∧ w.frozen? ⟨g, 0, none⟩ = false ∧ w.frozen? ⟨g, 1, none⟩ = false :=
  two_cells (w0 := w) (C := g + 1) (Below.refl _ _) h (Nat.lt_succ_self g)
theorem Bb.lt (h : Bb w g x y) : g < w.heap.size := (Array.getElem?_eq_some_iff.1 h).1
theorem Bb.set (h : Bb w g x y) (u v : Value) : Bb ((w.setCell ⟨g, 0, none⟩ u).setCell ⟨g, 1, none⟩ v) g u v := by
  unfold Bb at h ⊢
  simp [World.setCell, Array.getElem?_modify, h]
theorem Bb.drew (h : Bb w g x y) : Bb w.drew g x y := h
theorem Bb.alloc (h : Bb w g x y) (o : Obj) : Bb (w.alloc o) g x y := ((Below.refl w.heap.size w).alloc (Nat.le_refl _) o).block g (Bb.lt h) |>.trans h
theorem Bb.new (w : World) (x y : Value) : Bb (w.alloc (.cells #[x, y] 28)) w.heap.size x y := heap_alloc_new w _
end
/-! ### the reference's Shift -/
def ShPost (w : World) (A0 : Option Addr) (z : Int) (e : Ending) (w' : World) : Prop :=
  ∃ A c, e = .returned (.agg #[.bool (decide (z < 0)), .slice A (digs 2 z.natAbs).length c]) ∧ SlI w' w'.heap.size A (digs 2 z.natAbs).length c (digs 2 z.natAbs) ∧
    (digs 2 z.natAbs ≠ [] → ∀ b o, A = some ⟨b, o, none⟩ → (∃ o', A0 = some ⟨b, o', none⟩) ∨ w.heap.size ≤ b) ∧ Below w.heap.size w w'
theorem PostB.sh {w w' : World} {z : Int} {e : Ending} {A0 : Option Addr} (h : PostB w z e w') : ShPost w A0 z e w' := by
  obtain ⟨v, he, ⟨A, c, rfl, ho⟩, hb⟩ := h
  refine ⟨A, c, he, bits_sl ho, fun _ b o e => ?_, hb⟩
  rcases Own.form ho with ⟨h1, _⟩ | ⟨g, h1, h2, _⟩
  · rw [h1] at e; cases e
  · rw [h1] at e; injection e with e; injection e with e1; subst e1; exact .inr h2
set_option maxRecDepth 100000 in
set_option maxHeartbeats 4000000 in
theorem rShift_up {x : Int} {B : Nat} {A : Option Addr} {c : Nat} {w : World} (hs : SlI w B A (digs 2 x.natAbs).length c (digs 2 x.natAbs)) (hB : B ≤ w.heap.size) (hA : A = none → c = 0) (hn : (digs 2 x.natAbs).length ≤ 33554432) (k : Nat) (hk : k ≤ 33554432) {z : Int} (hz : x * 2 ^ k = z) :
    Calls Try.prog 58 #[.agg #[.bool (decide (x < 0)), .slice A (digs 2 x.natAbs).length c], .int .i64 (k : Int)] w (PostB w z) := by
  have HV := Lib.hid (show bval (decide (x < 0)) (List.replicate k 0 ++ digs 2 x.natAbs) = z by
    unfold bval
    rw [nv_twos, ← hz]
    have e2 : ((2 ^ k * x.natAbs : Nat) : Int) = 2 ^ k * (x.natAbs : Int) := by rw [Int.natCast_mul, two_pow_cast]
    rw [e2]
    by_cases hx : x < 0
    · rw [decide_eq_true hx, if_pos rfl, show (x.natAbs : Int) = -x by omega, Int.mul_neg, Int.neg_neg, Int.mul_comm]
    · rw [decide_eq_false hx, if_neg (by simp), show (x.natAbs : Int) = x by omega, Int.mul_comm])
  have HD := Lib.hid (dig_twos k x.natAbs)
  have HLn := Lib.hid (show (List.replicate k 0 ++ digs 2 x.natAbs).length = k + (digs 2 x.natAbs).length by simp)
  have HB := Lib.hid (((Below.refl w.heap.size w).alloc (Nat.le_refl _) (.cells #[.bool (decide (x < 0)), .slice A (digs 2 x.natAbs).length c] 28)).alloc (by simp) (.cells #[.bool false, .slice none 0 0] 28))
  have h1 : Bb ((w.alloc (.cells #[.bool (decide (x < 0)), .slice A (digs 2 x.natAbs).length c] 28)).alloc (.cells #[.bool false, .slice none 0 0] 28)) w.heap.size (.bool (decide (x < 0))) (.slice A (digs 2 x.natAbs).length c) := Bb.alloc (Bb.new w _ _) _
  have h2 : Bb ((w.alloc (.cells #[.bool (decide (x < 0)), .slice A (digs 2 x.natAbs).length c] 28)).alloc (.cells #[.bool false, .slice none 0 0] 28)) (w.heap.size + 1) (.bool false) (.slice none 0 0) := by
    have := Bb.new (w.alloc (.cells #[.bool (decide (x < 0)), .slice A (digs 2 x.natAbs).length c] 28)) (.bool false) (.slice none 0 0)
    simpa only [World.size_alloc] using this
  have HS := Lib.hid (fun w1 (hb : Below w.heap.size w w1) => hs.below (C := w.heap.size) hb hB)
  have HAc := Lib.hid hA
  have H1 := Lib.hid h1
  have H2 := Lib.hid h2
  have hsz : w.heap.size + 1 < ((w.alloc (.cells #[.bool (decide (x < 0)), .slice A (digs 2 x.natAbs).length c] 28)).alloc (.cells #[.bool false, .slice none 0 0] 28)).heap.size := by simp
  have d0 : decide ((0 : Int) ≤ (k : Int)) = true := decide_eq_true (by omega)
  have hkI : (k : Int) ≤ 33554432 := by omega
  have HMk := Lib.hid (show k ≤ maxLen by unfold maxLen; omega)
  have hmk := makeI k (by omega)
  clear hs hB hz h1 h2 hA
  generalize decide (x < 0) = s at *
  generalize digs 2 x.natAbs = l at *
  generalize hl : l.length = n at *
  clear hl
  go_enter Try.func58, Try.ntmps58
  go_upto_region 2 with fail
  generalize ((w.alloc (.cells #[.bool s, .slice A n c] 28)).alloc (.cells #[.bool false, .slice none 0 0] 28)) = W1 at *
  have hS := Lib.hid (fun w' (hb : Below W1.heap.size W1 w') => And.intro (H1.out.below hb (Bb.lt H1.out)).facts.1 (H1.out.below hb (Bb.lt H1.out)).facts.2.1)
  have hT := Lib.hid (fun w' (hb : Below W1.heap.size W1 w') => H2.out.below hb (Bb.lt H2.out))
  have KK : Below W1.heap.size W1 W1.drew := (Below.refl _ _).drew
  refine wp_region_wait (fun w' => w'.cell? ⟨w.heap.size, 0, none⟩ = some (.bool s) ∧ w'.cell? ⟨w.heap.size, 1, none⟩ = some (.slice A n c)) 8 (by kernel_rfl) ?_
  change wpAnyW _ _ _ _ _ _ _ _ _ W1.drew
  have zd : W1.heap.size ≤ W1.drew.heap.size := Nat.le_refl _
  generalize W1.drew = u0 at *
  refine wpAnyW_take 8 (i := 0) (v := .pointer (some ⟨w.heap.size, 0, none⟩)) rfl (by kernel_rfl) (by kernel_rfl) (by kernel_rfl) (by kernel_rfl) (fun _ _ _ h => h) (Or.inl ⟨by kernel_rfl, fun w5 hSw => by go_simp⟩) (hS.out _ KK) ?_
  refine wpAnyW_take 8 (i := 1) (v := .bool s) rfl (by kernel_rfl) (by kernel_rfl) (by kernel_rfl) (by kernel_rfl) (fun _ _ _ h => h) (Or.inl ⟨by kernel_rfl, fun w5 hSw => by go_simp⟩) (hS.out _ KK) ?_
  refine wpAnyW_take 8 (i := 2) (v := .int .i64 (k : Int)) rfl (by kernel_rfl) (by kernel_rfl) (by kernel_rfl) (by kernel_rfl) (fun _ _ _ h => h) (Or.inl ⟨by kernel_rfl, fun w5 hSw => by go_simp⟩) (hS.out _ KK) ?_
  refine wpAnyW_take 8 (i := 4) (v := .pointer (some ⟨w.heap.size, 1, none⟩)) rfl (by kernel_rfl) (by kernel_rfl) (by kernel_rfl) (by kernel_rfl) (fun _ _ _ h => h) (Or.inl ⟨by kernel_rfl, fun w5 hSw => by go_simp⟩) (hS.out _ KK) ?_
  refine wpAnyW_take 8 (i := 5) (v := .slice A n c) rfl (by kernel_rfl) (by kernel_rfl) (by kernel_rfl) (by kernel_rfl) (fun _ _ _ h => h) (Or.inl ⟨by kernel_rfl, fun w5 hSw => by go_simp⟩) (hS.out _ KK) ?_
  refine wpAnyW_one (i := 3) (by kernel_rfl) rfl (fun K hK => ?_)
  go_simp
  have omk := own_zerosI u0 k (B := W1.heap.size) KK.size HMk.out
  have zu1 : u0.heap.size < (u0.alloc (.cells (madeCells #[.int .i64 0] k) 3)).heap.size := by simp
  replace KK := Below.alloc KK KK.size (.cells (madeCells #[.int .i64 0] k) 3)
  refine hK.out _ _ (fun _ => hS.out _ KK) ?_
  generalize u0.alloc (.cells (madeCells #[.int .i64 0] k) 3) = u1 at *
  generalize u0.heap.size = g2 at *
  refine wpAnyW_one (i := 6) (by kernel_rfl) rfl (fun K hK => ?_)
  have osl := HS.out _ (HB.out.trans (KK.mono (B' := w.heap.size) (by omega)))
  refine wp_append_farI (base := W1.heap.size) (l0 := List.replicate k 0) (l := l) (A := A) (A0 := some ⟨g2, 0, none⟩) (n0 := k) (c0 := k) (m := n) (c := c) _ _ (by rfl) (by rfl) omk (by rfl) HAc.out osl (by omega) KK.size ?_
  intro Aap cap u5 oap hbb hff _
  replace KK := KK.trans (hbb.mono (Nat.le_refl _))
  clear hbb hff omk osl
  refine hK.out _ _ (fun _ => hS.out _ KK) ?_
  refine wpAnyW_one (i := 7) (by kernel_rfl) rfl (fun K hK => ?_)
  go_simp
  (with_reducible refine (rlaid_at s oap HLn.out HD.out HV.out).mono ?_)
  rintro ex u6 ⟨rfl, ores, hbb⟩
  replace KK := KK.trans (hbb.mono KK.size)
  clear hbb oap
  refine hK.out _ _ (fun _ => hS.out _ KK) ?_
  refine wpAnyW_one (i := 8) (by kernel_rfl) rfl (fun K hK => ?_)
  obtain ⟨t0, t1, t2, t3⟩ := (hT.out _ KK).facts
  go_simp
  refine hK.out _ _ (fun h => absurd h (by simp)) ?_
  refine wpAnyW_done (by kernel_rfl) ?_ _
  go_wp2
  have hr := ResB.stored (w := w) (g := w.heap.size + 1) (u := .bool (decide (z < 0))) (u' := .slice Aap (digs 2 z.natAbs).length cap) ⟨Aap, cap, rfl, ores⟩ (HB.out.trans (KK.mono (B' := w.heap.size) (by omega))) (by omega) (by omega)
  exact bodyPost_ret (v := .agg #[.bool (decide (z < 0)), .slice Aap (digs 2 z.natAbs).length cap]) (by simp [results, Try.results58, go_sem, t0, t1]) rfl ⟨_, rfl, hr.1, hr.2⟩
/-! ### Shift, down -/
theorem rlaid_z {B : Nat} {A : Option Addr} {c : Nat} {w : World} {s : Bool} {z : Int} (h : SlI w B A (digs 2 z.natAbs).length c (digs 2 z.natAbs)) (hz : bval s (digs 2 z.natAbs) = z) (hB : B ≤ w.heap.size) :
    Calls Try.prog 68 #[.bool s, .slice A (digs 2 z.natAbs).length c] w fun e w' => e = .returned (.agg #[.bool (decide (z < 0)), .slice A (digs 2 z.natAbs).length c]) ∧ Below w.heap.size w w' := by
  have h2 := rlaid_any s h hB
  rwa [tlen_of_nrm (nrm_digs (by decide) _), ← bval_sg, hz] at h2
theorem sh_parts (x : Int) (k : Nat) {z1 : Int} (hz1 : z1 = if x < 0 then -((x.natAbs / 2 ^ k : Nat) : Int) else ((x.natAbs / 2 ^ k : Nat) : Int)) :
    z1.natAbs = x.natAbs / 2 ^ k ∧ bval (decide (x < 0)) (digs 2 z1.natAbs) = z1 ∧ x / 2 ^ k = (if x < 0 ∧ x.natAbs % 2 ^ k ≠ 0 then z1 + -1 else z1) := by
  have e1 : z1.natAbs = x.natAbs / 2 ^ k := by
    rw [hz1]
    generalize x.natAbs / 2 ^ k = P
    split <;> omega
  refine ⟨e1, ?_, ?_⟩
  · unfold bval
    rw [nv_digs (by decide), e1, hz1]
    by_cases hx : x < 0
    · rw [decide_eq_true hx, if_pos rfl, if_pos hx]
    · rw [decide_eq_false hx, if_neg (by simp), if_neg hx]
  · by_cases hx : x < 0
    · have ex : x = -(x.natAbs : Int) := by omega
      by_cases h0 : x.natAbs % 2 ^ k = 0
      · rw [if_neg (by simp [h0]), hz1, if_pos hx]
        have := down_neg0 h0
        rw [← ex] at this
        exact this
      · rw [if_pos ⟨hx, h0⟩, hz1, if_pos hx]
        have := down_neg1 h0
        rw [← ex] at this
        exact this
    · rw [if_neg (by simp [hx]), hz1, if_neg hx]
      have ex : x = (x.natAbs : Int) := by omega
      have := down_pos x.natAbs k
      rw [← ex] at this
      exact this
theorem sh_far {x : Int} {n m : Nat} (hn : (digs 2 x.natAbs).length = n) (hm : n ≤ m) : x / 2 ^ m = x / 2 ^ n := by
  have h1 : x.natAbs < 2 ^ n := lt_of_digs_length (by decide) (Nat.le_of_eq hn)
  rw [down_far h1 hm, down_far h1 (Nat.le_refl _)]
theorem SlI.dropped {w : World} {B b o c n k : Nat} {x : Nat} (h : SlI w B (some ⟨b, o, none⟩) n c (digs 2 x)) (hk : k ≤ n) : SlI w B (some ⟨b, o + k, none⟩) (n - k) (c - k) (digs 2 (x / 2 ^ k)) := by
  have hl := h.len
  have h1 := h.cap
  have h2 := h.max
  rw [← digs_drop]
  refine ⟨by rw [List.length_drop, hl], by omega, by omega, (dig_digs (by decide) x).drop k, fun hx => ?_⟩
  have hne : (digs 2 x).drop k ≠ [] := fun e => hx (by rw [e]; rfl)
  have hlt : k < n := by
    rcases Nat.lt_or_ge k n with h9 | h9
    · exact h9
    · exact absurd (List.drop_eq_nil_of_le (by omega)) hne
  obtain ⟨b', o', hA, hb, hc⟩ := h.rd (i64s_ne (by omega))
  injection hA with hA
  injection hA with e1 e2
  subst e1; subst e2
  refine ⟨b, o + k, rfl, hb, fun i v hi => ?_⟩
  rw [Nat.add_assoc]
  refine hc (k + i) v ?_
  rw [i64s, List.getElem?_map] at hi ⊢
  rw [List.getElem?_drop] at hi
  exact hi
theorem SlI.dropped0 {w : World} {B b o c n : Nat} {x : Nat} (h : SlI w B (some ⟨b, o, none⟩) n c (digs 2 x)) (A' : Option Addr) : SlI w B A' (n - n) (c - n) (digs 2 (x / 2 ^ n)) := by
  have hl := h.len
  have h2 := h.max
  rw [← digs_drop, List.drop_eq_nil_of_le (by omega)]
  exact ⟨by simp, by omega, by omega, Dig.nil _, fun hx => absurd rfl hx⟩
set_option maxRecDepth 100000 in
set_option maxHeartbeats 4000000 in
theorem rShift_down {x : Int} {B : Nat} {A : Option Addr} {c : Nat} {w : World} (hs : SlI w B A (digs 2 x.natAbs).length c (digs 2 x.natAbs)) (hB : B ≤ w.heap.size) (hx0 : x ≠ 0) (hn : (digs 2 x.natAbs).length ≤ 1000000) (kk : Int) (hk1 : -9223372036854775808 ≤ kk) (hk2 : kk < 0) {z : Int} (hz : shZ x kk = z) :
    Calls Try.prog 58 #[.agg #[.bool (decide (x < 0)), .slice A (digs 2 x.natAbs).length c], .int .i64 kk] w (ShPost w A z) := by
  obtain ⟨n, hnn⟩ : ∃ n, (digs 2 x.natAbs).length = n := ⟨_, rfl⟩
  have hn1 : 0 < n := by rw [← hnn, digs_half_len (by omega)]; omega
  have hn1 : 0 < n := by rw [← hnn, digs_half_len (by omega)]; omega
  obtain ⟨m, k, hmin, hkn, hm0, hm9, hk0, hcase, hzk⟩ : ∃ m k : Nat, min (m : Int) (n : Int) = (k : Int) ∧ k ≤ n ∧ 0 < m ∧ m ≤ 1000001 ∧ 0 < k ∧ (-kk ≤ (n : Int) ∧ -(m : Int) = kk ∨ ¬ -kk ≤ (n : Int) ∧ -(m : Int) = -(n : Int) - 1) ∧ x / 2 ^ k = z := by
    have e9 : kk = -(((-kk).toNat : Nat) : Int) := by omega
    by_cases hsm : -kk ≤ (n : Int)
    · refine ⟨(-kk).toNat, (-kk).toNat, by omega, by omega, by omega, by omega, by omega, .inl ⟨hsm, by omega⟩, ?_⟩
      rw [← hz, e9, shZ_down x (by omega)]
      congr 2
      omega
    · refine ⟨n + 1, n, by omega, Nat.le_refl _, by omega, by omega, hn1, .inr ⟨hsm, by omega⟩, ?_⟩
      rw [← hz, e9, shZ_down x (by omega)]
      exact (sh_far hnn (by omega)).symm
  obtain ⟨z1, hz1⟩ : ∃ z1 : Int, z1 = if x < 0 then -((x.natAbs / 2 ^ k : Nat) : Int) else ((x.natAbs / 2 ^ k : Nat) : Int) := ⟨_, rfl⟩
  obtain ⟨hza, hzb, hzc⟩ := sh_parts x k hz1
  rw [hzk] at hzc
  rw [hnn] at hs ⊢
  obtain ⟨b, o, rfl, hbB, _⟩ := hs.at_ hn1
  have hcap := hs.cap
  have hcmx := hs.max
  obtain ⟨A9, hA9⟩ : ∃ A9 : Option Addr, (if c = k then some ⟨b, o, none⟩ else some ⟨b, o + k, none⟩) = A9 := ⟨_, rfl⟩
  have hs9 : SlI w B A9 (n - k) (c - k) (digs 2 z1.natAbs) := by
    rw [hza, ← hA9]
    by_cases h9 : c = k
    · obtain rfl : k = n := by omega
      exact SlI.dropped0 hs _
    · rw [if_neg h9]; exact SlI.dropped hs hkn
  have hl9 : n - k = (digs 2 z1.natAbs).length := hs9.len.symm
  rw [hl9] at hs9
  have HS9 := Lib.hid (fun w1 (hb : Below w.heap.size w w1) => hs9.below (C := w.heap.size) hb hB)
  have HAp := Lib.hid (fun b' o' (e : A9 = some ⟨b', o', none⟩) => show b' = b by
    rw [← hA9] at e
    split at e <;> (injection e with e; injection e with e1; exact e1.symm))
  obtain ⟨tl, htl⟩ : ∃ tl, tlen ((digs 2 x.natAbs).take k) = tl := ⟨_, rfl⟩
  have htl2 : tl = 0 ↔ x.natAbs % 2 ^ k = 0 := by rw [← htl, tlen_zero_iff (b := 2) (by decide), nv_take_mod]
  have HCut := Lib.hid (fun w1 (hb : Below w.heap.size w w1) => by
    have h := rcut_any ((SlI.take hs hkn).below (C := w.heap.size) hb hB)
    rw [htl] at h
    exact h)
  have HB := Lib.hid (((Below.refl w.heap.size w).alloc (Nat.le_refl _) (.cells #[.bool (decide (x < 0)), .slice (some ⟨b, o, none⟩) n c] 28)).alloc (by simp) (.cells #[.bool false, .slice none 0 0] 28))
  have h1 : Bb ((w.alloc (.cells #[.bool (decide (x < 0)), .slice (some ⟨b, o, none⟩) n c] 28)).alloc (.cells #[.bool false, .slice none 0 0] 28)) w.heap.size (.bool (decide (x < 0))) (.slice (some ⟨b, o, none⟩) n c) := Bb.alloc (Bb.new w _ _) _
  have h2 : Bb ((w.alloc (.cells #[.bool (decide (x < 0)), .slice (some ⟨b, o, none⟩) n c] 28)).alloc (.cells #[.bool false, .slice none 0 0] 28)) (w.heap.size + 1) (.bool false) (.slice none 0 0) := by
    have := Bb.new (w.alloc (.cells #[.bool (decide (x < 0)), .slice (some ⟨b, o, none⟩) n c] 28)) (.bool false) (.slice none 0 0)
    simpa only [World.size_alloc] using this
  have H1 := Lib.hid h1
  have H2 := Lib.hid h2
  have hsz : w.heap.size + 1 < ((w.alloc (.cells #[.bool (decide (x < 0)), .slice (some ⟨b, o, none⟩) n c] 28)).alloc (.cells #[.bool false, .slice none 0 0] 28)).heap.size := by simp
  have HZB := Lib.hid hzb
  have HZC := Lib.hid (show z = if x < 0 ∧ tl ≠ 0 then z1 + -1 else z1 by
    rw [hzc]
    by_cases h : x < 0 ∧ x.natAbs % 2 ^ k ≠ 0
    · rw [if_pos h, if_pos ⟨h.1, fun e => h.2 (htl2.1 e)⟩]
    · rw [if_neg h, if_neg (fun e => h ⟨e.1, fun e2 => e.2 (htl2.2 e2)⟩)])
  have HZL := Lib.hid (show (digs 2 z1.natAbs).length ≤ 1000000 by omega)
  obtain ⟨mm, hmm⟩ : ∃ mm : Int, -(m : Int) = mm := ⟨_, rfl⟩
  have hmneg : -mm = (m : Int) := by omega
  have hm1 : -1000001 ≤ mm := by omega
  have hm2 : mm < 0 := by omega
  have hnI : (n : Int) ≤ 1000000 := by omega
  have hmI : (m : Int) ≤ 1000001 := by omega
  have hkI : (k : Int) ≤ (n : Int) := by omega
  have hk00 : (0 : Int) < (k : Int) := by omega
  have hne0 : ((n : Int) == 0) = false := beq_eq_false_iff_ne.2 (by omega)
  have d0 : decide ((0 : Int) ≤ kk) = false := decide_eq_false (by omega)
  have hd9 : (∃ nk : Int, IntKind.i64.wrap (-kk) = nk ∧ decide ((n : Int) < nk) = false ∧ decide (kk < -1000000) = false ∧ mm = kk) ∨ (∃ nk : Int, IntKind.i64.wrap (-kk) = nk ∧ decide ((n : Int) < nk) = false ∧ decide (kk < -1000000) = true ∧ mm = -(n : Int) - 1) ∨ (∃ nk : Int, IntKind.i64.wrap (-kk) = nk ∧ decide ((n : Int) < nk) = true ∧ mm = -(n : Int) - 1) := by
    rcases hcase with ⟨h1, h2⟩ | ⟨h1, h2⟩
    · exact .inl ⟨-kk, IntWalk.i64_in _ (by omega), decide_eq_false (by omega), decide_eq_false (by omega), by omega⟩
    · by_cases hmin : kk = -9223372036854775808
      · exact .inr (.inl ⟨-9223372036854775808, by rw [hmin]; rfl, decide_eq_false (by omega), decide_eq_true (by omega), by omega⟩)
      · exact .inr (.inr ⟨-kk, IntWalk.i64_in _ (by omega), decide_eq_true (by omega), by omega⟩)
  have HLaid := Lib.hid (fun w1 (hb : Below w.heap.size w w1) => rlaid_z (HS9.out w1 hb) HZB.out (Nat.le_trans hB hb.size))
  have HSum := Lib.hid (fun w1 w3 (hb : Below w.heap.size w w1) (hb2 : Below w1.heap.size w1 w3) (A2 : Option Addr) (c2 : Nat) (ho2 : OwnI w3 w1.heap.size A2 (digs 2 (-1 : Int).natAbs).length c2 (i64s (digs 2 (-1 : Int).natAbs))) (hz9 : z1 + -1 = z) => Sum_w (x := z1) (y := -1) (((HS9.out _ (hb.trans (hb2.mono hb.size))).mono (Nat.le_trans hB (Nat.le_trans hb.size hb2.size)))) (bits_sl ho2) (Nat.le_trans HZL.out (by decide)) (Nat.le_trans (digs_length_le (b := 2) (k := 1) (by decide) (by decide)) (by decide)) hz9)
  have HBB := Lib.hid hB
  have HD9 := Lib.hid hd9
  have HX := Lib.hid hx0
  have HTL := Lib.hid htl
  clear hd9 hs hs9 hB h1 h2 hzb hzc hza hz1 hz hzk hcase hmm hx0 htl htl2 hnn hk1 hk2
  generalize hsx : decide (x < 0) = sx at *
  have HSX := Lib.hid hsx
  generalize hn9 : (digs 2 z1.natAbs).length = n9 at *
  have HN9 := Lib.hid hn9
  clear hsx hn9
  go_enter Try.func58, Try.ntmps58
  go_upto_region 3 with fail
  obtain ⟨a0, a1, _, _⟩ := H1.out.facts
  generalize ((w.alloc (.cells #[.bool sx, .slice (some ⟨b, o, none⟩) n c] 28)).alloc (.cells #[.bool false, .slice none 0 0] 28)) = W1 at *
  obtain ⟨cb, hcb⟩ : ∃ cb : Bool, (cb = true ∧ mm = -(n : Int) - 1 ∨ cb = false ∧ mm = kk) ∧ ∃ nk : Int, IntKind.i64.wrap (-kk) = nk ∧ (decide ((n : Int) < nk) = false ∧ decide (kk < -1000000) = cb ∨ decide ((n : Int) < nk) = true ∧ cb = true) := by
    rcases HD9.out with ⟨nk, e1, e2, e3, e4⟩ | ⟨nk, e1, e2, e3, e4⟩ | ⟨nk, e1, e2, e4⟩
    · exact ⟨false, .inr ⟨rfl, e4⟩, nk, e1, .inl ⟨e2, e3⟩⟩
    · exact ⟨true, .inl ⟨rfl, e4⟩, nk, e1, .inl ⟨e2, e3⟩⟩
    · exact ⟨true, .inl ⟨rfl, e4⟩, nk, e1, .inr ⟨e2, rfl⟩⟩
  have HCB := Lib.hid hcb.1
  obtain ⟨_, nk, hnk, hnc⟩ := hcb
  have HNC := Lib.hid hnc
  clear hnc
  go_cut [27] (fun s1 wx => s1 = .bool cb ∧ W1 = wx)
  case first =>
    rcases HNC.out with ⟨e2, e3⟩ | ⟨e2, e3⟩
    · go_wp2_with fail
      go_meet
      exact ⟨rfl, rfl⟩
    · have E3 := Lib.hid e3
      clear e3
      go_wp2_with fail
      go_meet
      exact ⟨by rw [E3.out], rfl⟩
  obtain ⟨rfl, rfl⟩ := hcut
  clear hnk HNC
  go_upto_if 27 with fail
  go_cut [1] (fun s1 wx => s1 = .int .i64 mm ∧ W1 = wx)
  case first =>
    rcases HCB.out with ⟨rfl, e3⟩ | ⟨rfl, e3⟩
    · have E3 := Lib.hid e3
      clear e3
      go_wp2_with fail
      go_meet
      exact ⟨by rw [E3.out], rfl⟩
    · have E3 := Lib.hid e3
      clear e3
      go_wp2_with fail
      go_meet
      exact ⟨by rw [E3.out], rfl⟩
  obtain ⟨rfl, rfl⟩ := hcut
  clear HD9 d0
  go_wp2_with fail
  (with_reducible refine (HCut.out _ HB.out).mono ?_)
  rintro ex w5 ⟨rfl, rfl⟩
  obtain ⟨lo, hlo⟩ : ∃ lo : Bool, decide (0 < tl) = lo := ⟨_, rfl⟩
  have hlo2 : decide ((0 : Int) < (tl : Int)) = lo := by rw [← hlo]; exact decide_eq_decide.2 (by omega)
  have HLO := Lib.hid hlo
  clear HCut
  go_upto_region 9 with fail
  clear hlo hlo2
  go_cut [7] (fun s7 wx => ∃ g, s7 = .pointer (some ⟨g, 0, none⟩) ∧ Bb wx g (.bool (decide (z1 < 0))) (.slice A9 n9 (c - k)) ∧ Below W1.heap.size W1 wx ∧ W1.heap.size ≤ g)
  case first =>
    have hS := Lib.hid (fun w' (hb : Below W1.heap.size W1 w') => And.intro (H1.out.below hb (Bb.lt H1.out)).facts.1 (H1.out.below hb (Bb.lt H1.out)).facts.2.1)
    have KK : Below W1.heap.size W1 W1.drew := (Below.refl _ _).drew
    refine wp_region_wait (fun w' => w'.cell? ⟨w.heap.size, 0, none⟩ = some (.bool sx) ∧ w'.cell? ⟨w.heap.size, 1, none⟩ = some (.slice (some ⟨b, o, none⟩) n c)) 8 (by kernel_rfl) ?_
    change wpAnyW _ _ _ _ _ _ _ _ _ W1.drew
    have zd : W1.heap.size ≤ W1.drew.heap.size := Nat.le_refl _
    generalize W1.drew = u0 at *
    refine wpAnyW_take 8 (i := 0) (v := .pointer (some ⟨w.heap.size, 0, none⟩)) rfl (by kernel_rfl) (by kernel_rfl) (by kernel_rfl) (by kernel_rfl) (fun _ _ _ h => h) (Or.inl ⟨by kernel_rfl, fun w5 hSw => by go_simp⟩) (hS.out _ KK) ?_
    refine wpAnyW_take 8 (i := 1) (v := .bool sx) rfl (by kernel_rfl) (by kernel_rfl) (by kernel_rfl) (by kernel_rfl) (fun _ _ _ h => h) (Or.inl ⟨by kernel_rfl, fun w5 hSw => by go_simp⟩) (hS.out _ KK) ?_
    refine wpAnyW_take 8 (i := 2) (v := .pointer (some ⟨w.heap.size, 1, none⟩)) rfl (by kernel_rfl) (by kernel_rfl) (by kernel_rfl) (by kernel_rfl) (fun _ _ _ h => h) (Or.inl ⟨by kernel_rfl, fun w5 hSw => by go_simp⟩) (hS.out _ KK) ?_
    refine wpAnyW_take 8 (i := 3) (v := .slice (some ⟨b, o, none⟩) n c) rfl (by kernel_rfl) (by kernel_rfl) (by kernel_rfl) (by kernel_rfl) (fun _ _ _ h => h) (Or.inl ⟨by kernel_rfl, fun w5 hSw => by go_simp⟩) (hS.out _ KK) ?_
    refine wpAnyW_take 8 (i := 4) (v := .int .i64 (k : Int)) rfl (by kernel_rfl) (by kernel_rfl) (by kernel_rfl) (by kernel_rfl) (fun _ _ _ h => h) (Or.inl ⟨by kernel_rfl, fun w5 hSw => by go_simp⟩) (hS.out _ KK) ?_
    refine wpAnyW_take 8 (i := 5) (v := .slice A9 n9 (c - k)) rfl (by kernel_rfl) (by kernel_rfl) (by kernel_rfl) (by kernel_rfl) (fun _ _ _ h => h) (Or.inl ⟨by kernel_rfl, fun w5 hSw => by go_simp⟩) (hS.out _ KK) ?_
    refine wpAnyW_two (i := 6) (i2 := 7) (by kernel_rfl) rfl rfl (fun K hK => ?_) (fun K hK => ?_)
    · go_simp
      (with_reducible refine (HLaid.out _ (HB.out.trans (KK.mono (B' := w.heap.size) (by omega)))).mono ?_)
      rintro ex u1 ⟨rfl, hbb⟩
      replace KK := KK.trans (hbb.mono KK.size)
      clear hbb
      refine hK.out _ _ (fun _ => hS.out _ KK) ?_
      refine wpAnyW_one (i := 7) (by kernel_rfl) rfl (fun K hK => ?_)
      go_simp
      have bal := Bb.new u1 (.bool false) (.slice none 0 0)
      have hwal : W1.heap.size ≤ u1.heap.size := KK.size
      replace KK := Below.alloc KK KK.size (.cells #[.bool false, .slice none 0 0] 28)
      refine hK.out _ _ (fun _ => hS.out _ KK) ?_
      generalize u1.alloc (.cells #[.bool false, .slice none 0 0] 28) = u2 at *
      generalize u1.heap.size = g2 at *
      refine wpAnyW_one (i := 8) (by kernel_rfl) rfl (fun K hK => ?_)
      obtain ⟨t0, t1, t2, t3⟩ := bal.facts
      go_simp
      refine hK.out _ _ (fun h => absurd h (by simp)) ?_
      refine wpAnyW_done (by kernel_rfl) ?_ _
      go_wp2_with fail
      go_meet
      exact ⟨g2, rfl, Bb.set bal _ _, (KK.setCell (by simpa using hwal) _).setCell (by simpa using hwal) _, hwal⟩
    · go_simp
      have bal := Bb.new u0 (.bool false) (.slice none 0 0)
      have hwal : W1.heap.size ≤ u0.heap.size := KK.size
      replace KK := Below.alloc KK KK.size (.cells #[.bool false, .slice none 0 0] 28)
      refine hK.out _ _ (fun _ => hS.out _ KK) ?_
      generalize u0.alloc (.cells #[.bool false, .slice none 0 0] 28) = u2 at *
      generalize u0.heap.size = g2 at *
      refine wpAnyW_one (i := 6) (by kernel_rfl) rfl (fun K hK => ?_)
      go_simp
      (with_reducible refine (HLaid.out _ (HB.out.trans (KK.mono (B' := w.heap.size) (by omega)))).mono ?_)
      rintro ex u1 ⟨rfl, hbb⟩
      replace KK := KK.trans (hbb.mono KK.size)
      replace bal := Bb.below bal hbb (Bb.lt bal)
      clear hbb
      refine hK.out _ _ (fun _ => hS.out _ KK) ?_
      refine wpAnyW_one (i := 8) (by kernel_rfl) rfl (fun K hK => ?_)
      obtain ⟨t0, t1, t2, t3⟩ := bal.facts
      go_simp
      refine hK.out _ _ (fun h => absurd h (by simp)) ?_
      refine wpAnyW_done (by kernel_rfl) ?_ _
      go_wp2_with fail
      go_meet
      exact ⟨g2, rfl, Bb.set bal _ _, (KK.setCell (by simpa using hwal) _).setCell (by simpa using hwal) _, hwal⟩
  obtain ⟨g7, rfl, hb7, hbw7, hg7⟩ := hcut
  have HV := Lib.hid hb7
  have K7 := Lib.hid (HB.out.trans (hbw7.mono HB.out.size))
  obtain ⟨a0, a1, _, _⟩ := (H1.out.below hbw7 (Bb.lt H1.out)).facts
  obtain ⟨r0, r1, r2, r3⟩ := (H2.out.below hbw7 (Bb.lt H2.out)).facts
  obtain ⟨v0, v1, _, _⟩ := hb7.facts
  have HR := Lib.hid (H2.out.below hbw7 (Bb.lt H2.out))
  have hzc := hbw7.size
  clear hb7 hbw7
  have hg1 : w.heap.size + 1 < W1.heap.size := hsz
  by_cases hsum : x < 0 ∧ tl ≠ 0
  · have hz := Lib.hid (show z1 + -1 = z by have := HZC.out; rw [if_pos hsum] at this; exact this.symm)
    have e1 : sx = true := by rw [← HSX.out]; exact decide_eq_true hsum.1
    have e2 : lo = true := by rw [← HLO.out]; exact decide_eq_true (by omega)
    subst e1; subst e2
    have hS := Lib.hid (fun w' (hb : Below wc.heap.size wc w') => And.intro (HV.out.below hb (Bb.lt HV.out)).facts.1 (HV.out.below hb (Bb.lt HV.out)).facts.2.1)
    have hT := Lib.hid (fun w' (hb : Below wc.heap.size wc w') => HR.out.below hb (Bb.lt HR.out))
    clear hsum
    go_upto_region 11 with fail
    have KK : Below wc.heap.size wc wc.drew := (Below.refl _ _).drew
    refine wp_region_wait (fun w' => w'.cell? ⟨g7, 0, none⟩ = some (.bool (decide (z1 < 0))) ∧ w'.cell? ⟨g7, 1, none⟩ = some (.slice A9 n9 (c - k))) 3 (by kernel_rfl) ?_
    change wpAnyW _ _ _ _ _ _ _ _ _ wc.drew
    have zd : wc.heap.size ≤ wc.drew.heap.size := Nat.le_refl _
    generalize wc.drew = u0 at *
    clear a0 a1 r0 r1 r2 r3 v0 v1
    refine wpAnyW_take 3 (i := 0) (v := .agg #[.bool (decide (z1 < 0)), .slice A9 n9 (c - k)]) rfl (by kernel_rfl) (by kernel_rfl) (by kernel_rfl) (by kernel_rfl) (fun _ _ _ h => h) (Or.inl ⟨by kernel_rfl, fun w5 hSw => by go_simp⟩) (hS.out _ KK) ?_
    refine wpAnyW_one (i := 1) (by kernel_rfl) rfl (fun K hK => ?_)
    go_simp
    (with_reducible refine (Small_any (-1) (by decide) _).mono ?_)
    rintro ex u1 ⟨v1, rfl, ⟨A1, c1, rfl, ho1⟩, hb1⟩
    have KS := Lib.hid (HSum.out u0 u1 (K7.out.trans (KK.mono (B' := w.heap.size) K7.out.size)) hb1 A1 c1 ho1 hz.out)
    replace KK := KK.trans (hb1.mono KK.size)
    clear hb1 ho1
    refine hK.out _ _ (fun _ => hS.out _ KK) ?_
    refine wpAnyW_one (i := 2) (by kernel_rfl) rfl (fun K hK => ?_)
    go_simp
    refine KS.out.mono ?_
    rintro ex u2 ⟨v2, rfl, ⟨A2, c2, rfl, ho2⟩, hb2⟩
    have hz2 := KK.size
    replace KK := KK.trans (hb2.mono KK.size)
    clear hb2
    refine hK.out _ _ (fun _ => hS.out _ KK) ?_
    refine wpAnyW_one (i := 3) (by kernel_rfl) rfl (fun K hK => ?_)
    obtain ⟨t0, t1, t2, t3⟩ := (hT.out _ KK).facts
    go_simp
    refine hK.out _ _ (fun h => absurd h (by simp)) ?_
    refine wpAnyW_done (by kernel_rfl) ?_ _
    have hcz := hg7
    go_wp2
    have hr := ResB.stored (w := w) (g := w.heap.size + 1) (u := .bool (decide (z < 0))) (u' := .slice A2 (digs 2 z.natAbs).length c2) ⟨A2, c2, rfl, ho2⟩ (K7.out.trans (KK.mono (B' := w.heap.size) K7.out.size)) (by omega) (by omega)
    exact bodyPost_ret (v := .agg #[.bool (decide (z < 0)), .slice A2 (digs 2 z.natAbs).length c2]) (by simp [results, Try.results58, go_sem, t0, t1]) rfl (PostB.sh ⟨_, rfl, hr.1, hr.2⟩)
  · have hz : z1 = z := by have := HZC.out; rw [if_neg hsum] at this; exact this.symm
    have e9 : (sx = true ∧ lo = false) ∨ sx = false := by
      cases hs9 : sx
      · right; rfl
      · left
        refine ⟨rfl, ?_⟩
        rw [← HLO.out]
        refine decide_eq_false ?_
        have := of_decide_eq_true (HSX.out.trans hs9)
        intro h9
        exact hsum ⟨this, by omega⟩
    subst hz
    have hfin := Lib.hid (show ShPost w (some ⟨b, o, none⟩) z1 (.returned (.agg #[.bool (decide (z1 < 0)), .slice A9 n9 (c - k)])) ((wc.setCell ⟨w.heap.size + 1, 0, none⟩ (.bool (decide (z1 < 0)))).setCell ⟨w.heap.size + 1, 1, none⟩ (.slice A9 n9 (c - k))) from by
      have hB9 : B ≤ w.heap.size := HBB.out
      have hb9 : Below w.heap.size w ((wc.setCell ⟨w.heap.size + 1, 0, none⟩ (.bool (decide (z1 < 0)))).setCell ⟨w.heap.size + 1, 1, none⟩ (.slice A9 n9 (c - k))) := (K7.out.setCell (by show w.heap.size ≤ w.heap.size + 1; omega) _).setCell (by show w.heap.size ≤ w.heap.size + 1; omega) _
      refine ⟨A9, c - k, by rw [HN9.out], ?_, fun _ b' o' e => .inl ⟨o, by rw [HAp.out b' o' e]⟩, hb9⟩
      rw [HN9.out]
      exact (SlI.farB (SlI.farB (HS9.out _ K7.out) (p := ⟨w.heap.size + 1, 0, none⟩) (by show B ≤ w.heap.size + 1; omega) _) (p := ⟨w.heap.size + 1, 1, none⟩) (by show B ≤ w.heap.size + 1; omega) _).mono (Nat.le_trans hB9 hb9.size))
    clear hsum
    rcases e9 with ⟨e1, e2⟩ | e1
    · subst e1; subst e2
      go_wp2
      exact bodyPost_ret (v := .agg #[.bool (decide (z1 < 0)), .slice A9 n9 (c - k)]) (by simp [results, Try.results58, go_sem, r0, r1]) rfl hfin.out
    · subst e1
      go_wp2
      exact bodyPost_ret (v := .agg #[.bool (decide (z1 < 0)), .slice A9 n9 (c - k)]) (by simp [results, Try.results58, go_sem, r0, r1]) rfl hfin.out
theorem rShift_any {x : Int} {B : Nat} {A : Option Addr} {c : Nat} {w : World} (hs : SlI w B A (digs 2 x.natAbs).length c (digs 2 x.natAbs)) (hB : B ≤ w.heap.size) (hA : A = none → c = 0) (hx0 : x ≠ 0) (hn : (digs 2 x.natAbs).length ≤ 1000000) (kk : Int) (hk1 : -9223372036854775808 ≤ kk) (hk2 : kk ≤ 1000000) {z : Int} (hz : shZ x kk = z) :
    Calls Try.prog 58 #[.agg #[.bool (decide (x < 0)), .slice A (digs 2 x.natAbs).length c], .int .i64 kk] w (ShPost w A z) := by
  by_cases h : 0 ≤ kk
  · obtain ⟨k, rfl⟩ := Int.eq_ofNat_of_zero_le h
    rw [shZ_up] at hz
    exact (rShift_up hs hB hA (by omega) k (by omega) hz).mono fun _ _ h => PostB.sh h
  · exact rShift_down hs hB hx0 hn kk hk1 (by omega) hz
end Go.Proofs.Ytggdmhkdmkldoaa

namespace Go.Proofs.Ytggdmhkdmkldoaa
open Go.RowKit Hb
set_option linter.unusedVariables false
set_option linter.unusedSimpArgs false

/-! ### the law's powered -/
def P1All (w W1 : World) (s neg : Bool) (Ax A : Option Addr) (nx cx n c : Nat) : Prop := Below w.heap.size w W1 ∧ Bb W1 w.heap.size (.bool s) (.slice Ax nx cx) ∧ Bx W1 (w.heap.size + 1) (.bool neg) (.slice A n c) ∧ W1.heap.size = w.heap.size + 2
theorem P1_all (w : World) (s neg : Bool) (Ax A : Option Addr) (nx cx n c : Nat) : P1All w ((w.alloc (.cells #[.bool s, .slice Ax nx cx] 28)).alloc (.cells #[.bool neg, .slice A n c] 24)) s neg Ax A nx cx n c := by
  refine ⟨((Below.refl w.heap.size w).alloc (Nat.le_refl _) _).alloc (by simp) _, Bb.alloc (Bb.new w _ _) _, ?_, by simp⟩
  have := Bx.new (w.alloc (.cells #[.bool s, .slice Ax nx cx] 28)) (.bool neg) (.slice A n c)
  simpa only [World.size_alloc] using this
theorem gb_below_trans {a b c : World} {row : Option Nat} (h : Below a.heap.size a b) (k : b.grownBy c row) : a.grownBy c row := gb_trans (Below.gb h row) k
set_option maxRecDepth 100000 in
set_option maxHeartbeats 4000000 in
theorem powered_bad (s : Bool) (Ax A : Option Addr) (nx cx c : Nat) (kn E code : Int) (w : World) (row : Option Nat) (hc : code ≠ 0) (h : E = code ∨ (E = 0 ∧ kn < 0 ∧ code = 15)) :
    Calls Try.prog 57 #[.agg #[.bool s, .slice Ax nx cx], .int .i64 kn, .int .i64 E, .agg #[.bool false, .slice A 0 c], .int .i64 code] w (IsPost w row) := by
  have HW := Lib.hid (P1_all w s false Ax A nx cx 0 c)
  have HB := Lib.hid (fun w1 bad (h9 : bad = code) => is_bad s A Ax c nx cx code bad w1 row hc (.inl h9))
  rcases h with rfl | ⟨rfl, hk, rfl⟩
  · have e1 : (E != 0) = true := by rw [bne_iff_ne]; exact hc
    clear hc
    go_enter Try.func57, Try.ntmps57
    go_upto_region 1 with fail
    obtain ⟨a0, a1, _, _⟩ := HW.out.2.1.facts
    obtain ⟨b0, b1, _, _⟩ := HW.out.2.2.1.facts
    generalize ((w.alloc (.cells #[.bool s, .slice Ax nx cx] 28)).alloc (.cells #[.bool false, .slice A 0 c] 24)) = W1 at *
    go_wp2_with fail
    refine (HB.out _ _ rfl).mono ?_
    rintro ex w5 ⟨rfl, hg⟩
    have HG := Lib.hid (gb_below_trans HW.out.1 hg)
    clear hg
    go_wp2
    go_ret
    exact ⟨rfl, HG.out⟩
  · have e1 : decide (kn < 0) = true := decide_eq_true hk
    clear hc hk
    go_enter Try.func57, Try.ntmps57
    go_upto_region 1 with fail
    obtain ⟨a0, a1, _, _⟩ := HW.out.2.1.facts
    obtain ⟨b0, b1, _, _⟩ := HW.out.2.2.1.facts
    generalize ((w.alloc (.cells #[.bool s, .slice Ax nx cx] 28)).alloc (.cells #[.bool false, .slice A 0 c] 24)) = W1 at *
    go_wp2_with fail
    refine (HB.out _ _ rfl).mono ?_
    rintro ex w5 ⟨rfl, hg⟩
    have HG := Lib.hid (gb_below_trans HW.out.1 hg)
    clear hg
    go_wp2
    go_ret
    exact ⟨rfl, HG.out⟩
theorem Small_o {o1 : Int} (h : o1 = 1) (w : World) : Calls Try.prog 39 #[.int .i64 1] w (PostB w o1) := by
  subst h
  exact Small_any 1 (by decide) w
theorem pw_is {w w5 : World} {A : Option Addr} {n c B B' : Nat} {neg : Bool} {l : List Nat} {z : Int} {A' : Option Addr} {c' : Nat} (ho : OwnU w B A n c (u32s l)) (hB : B ≤ w.heap.size) (hg : Good z 0 neg A n c l) (hl : tooLong z = false) (hb : Below w.heap.size w w5) (ht : SlI w5 B' A' (digs 2 z.natAbs).length c' (digs 2 z.natAbs)) (hB' : B' ≤ w5.heap.size) :
    Calls Try.prog 25 #[.agg #[.bool neg, .slice A n c], .int .i64 0, .agg #[.bool (decide (z < 0)), .slice A' (digs 2 z.natAbs).length c'], .int .i64 0] w5 (fun e w' => e = .returned (.bool true) ∧ w.grownBy w' (A.map Addr.block)) :=
  (is_w (ho.below hb (Nat.le_refl _)) (Nat.le_trans hB hb.size) hg ht hB' (by rw [codeOf, if_pos rfl, hl]; rfl)).mono fun e w' ⟨he, hgr⟩ => ⟨he, gb_below_trans hb hgr⟩
set_option maxRecDepth 100000 in
set_option maxHeartbeats 4000000 in
theorem powered_small {x z o1 : Int} {kn : Int} {w : World} {Ax A : Option Addr} {cx n c B : Nat} {neg : Bool} {l : List Nat} (hk : 0 ≤ kn) (hk2 : kn ≤ 9223372036854775807) (hx : SlI w w.heap.size Ax (digs 2 x.natAbs).length cx (digs 2 x.natAbs)) (ho : OwnU w B A n c (u32s l)) (hB : B ≤ w.heap.size) (hg : Good z 0 neg A n c l) (hl : tooLong z = false) (ho1 : o1 = 1) (hs : (digs 2 x.natAbs).length < 2)
    (hcase : (kn = 0 ∧ z = o1) ∨ (0 < kn ∧ (digs 2 x.natAbs).length = 0 ∧ z = x) ∨ (0 < kn ∧ (digs 2 x.natAbs).length ≠ 0 ∧ kn % 2 = 1 ∧ z = x) ∨ (0 < kn ∧ (digs 2 x.natAbs).length ≠ 0 ∧ kn % 2 ≠ 1 ∧ z = o1)) :
    Calls Try.prog 57 #[.agg #[.bool (decide (x < 0)), .slice Ax (digs 2 x.natAbs).length cx], .int .i64 kn, .int .i64 0, .agg #[.bool neg, .slice A n c], .int .i64 0] w (IsPost w (A.map Addr.block)) := by
  have HO := Lib.hid (fun w1 (hb : Below w.heap.size w w1) => And.intro (ho.below hb (Nat.le_refl _)) (Nat.le_trans hB hb.size))
  have HX := Lib.hid (fun w1 (hb : Below w.heap.size w w1) => (hx.below hb (Nat.le_refl _)).mono hb.size)
  have HX1 := Lib.hid (fun w1 (hb : Below w.heap.size w w1) => hx.below hb (Nat.le_refl _))
  have HGd := Lib.hid hg
  have HIs := Lib.hid (fun w5 B' A' c' (hb : Below w.heap.size w w5) (ht : SlI w5 B' A' (digs 2 z.natAbs).length c' (digs 2 z.natAbs)) (hB' : B' ≤ w5.heap.size) => pw_is (c' := c') ho hB hg hl hb ht hB')
  have HSm := Lib.hid (fun w1 => show Calls Try.prog 39 #[.int .i64 1] w1 (PostB w1 o1) from Small_o ho1 w1)
  have hd4 : kn.tmod 2 = kn % 2 := Int.tmod_eq_emod_of_nonneg hk
  have hsI : ((digs 2 x.natAbs).length : Int) < 2 := by omega
  have hcs : (decide (0 < kn) = false ∧ z = o1) ∨ (decide (0 < kn) = true ∧ (((digs 2 x.natAbs).length : Int) == 0) = true ∧ z = x) ∨ (decide (0 < kn) = true ∧ (((digs 2 x.natAbs).length : Int) == 0) = false ∧ (kn % 2 == 1) = true ∧ z = x) ∨ (decide (0 < kn) = true ∧ (((digs 2 x.natAbs).length : Int) == 0) = false ∧ (kn % 2 == 1) = false ∧ z = o1) := by
    rcases hcase with ⟨h1, h2⟩ | ⟨h1, h2, h3⟩ | ⟨h1, h2, h3, h4⟩ | ⟨h1, h2, h3, h4⟩
    · exact .inl ⟨decide_eq_false (by omega), h2⟩
    · exact .inr (.inl ⟨decide_eq_true h1, by rw [h2]; rfl, h3⟩)
    · exact .inr (.inr (.inl ⟨decide_eq_true h1, beq_eq_false_iff_ne.2 (by omega), by rw [h3]; rfl, h4⟩))
    · exact .inr (.inr (.inr ⟨decide_eq_true h1, beq_eq_false_iff_ne.2 (by omega), beq_eq_false_iff_ne.2 h3, h4⟩))
  have HCS := Lib.hid hcs
  have e1 : decide (kn < 0) = false := decide_eq_false (by omega)
  clear hx ho hB hg hl hcase hcs hs ho1 hk hk2
  generalize hsx : decide (x < 0) = sx at *
  have HSX := Lib.hid hsx
  generalize hnx : (digs 2 x.natAbs).length = nx at *
  have HNX := Lib.hid hnx
  have HW := Lib.hid (P1_all w sx neg Ax A nx cx n c)
  clear hsx hnx
  go_enter Try.func57, Try.ntmps57
  go_upto_region 1 with fail
  obtain ⟨a0, a1, _, _⟩ := HW.out.2.1.facts
  obtain ⟨b0, b1, _, _⟩ := HW.out.2.2.1.facts
  have hz1 : ((w.alloc (.cells #[.bool sx, .slice Ax nx cx] 28)).alloc (.cells #[.bool neg, .slice A n c] 24)).heap.size = w.heap.size + 2 := HW.out.2.2.2
  generalize ((w.alloc (.cells #[.bool sx, .slice Ax nx cx] 28)).alloc (.cells #[.bool neg, .slice A n c] 24)) = W1 at *
  go_wp2_with fail
  (refine (HSm.out _).mono ?_)
  rintro ex w3 ⟨v3, rfl, ⟨A3, c3, rfl, ho3⟩, hb3⟩
  have hz3 := hb3.size
  have HB3 := Lib.hid (hb3.alloc hz3 (.cells #[.bool (decide (o1 < 0)), .slice A3 (digs 2 o1.natAbs).length c3] 28))
  have HO3 := Lib.hid (Own.alloc ho3 (.cells #[.bool (decide (o1 < 0)), .slice A3 (digs 2 o1.natAbs).length c3] 28))
  have HV := Lib.hid (Bb.new w3 (.bool (decide (o1 < 0))) (.slice A3 (digs 2 o1.natAbs).length c3))
  have hz4 : (w3.alloc (.cells #[.bool (decide (o1 < 0)), .slice A3 (digs 2 o1.natAbs).length c3] 28)).heap.size = w3.heap.size + 1 := by simp
  have HF3 := Lib.hid (fun g (e : A3 = some ⟨g, 0, none⟩) => show g ≠ w3.heap.size from Nat.ne_of_lt (own_block ho3 e).2)
  clear ho3 hb3
  go_upto_region 7 with fail
  obtain ⟨a0, a1, _, _⟩ := (HW.out.2.1.below (C := W1.heap.size) HB3.out (by omega)).facts
  obtain ⟨b0, b1, _, _⟩ := (HW.out.2.2.1.below (C := W1.heap.size) HB3.out (by omega)).facts
  obtain ⟨v0, v1, v2, v3⟩ := HV.out.facts
  have HVl := Lib.hid (Bb.lt HV.out)
  have hg3 : W1.heap.size ≤ w3.heap.size := hz3
  generalize (w3.alloc (.cells #[.bool (decide (o1 < 0)), .slice A3 (digs 2 o1.natAbs).length c3] 28)) = w4 at *
  generalize w3.heap.size = g3 at *
  have HB4 := Lib.hid (HW.out.1.trans (HB3.out.mono HW.out.1.size))
  rcases HCS.out with ⟨d1, hz⟩ | ⟨d1, d2, hz⟩ | ⟨d1, d2, d3, hz⟩ | ⟨d1, d2, d3, hz⟩
  · have HZ := Lib.hid hz
    clear hz
    have HC := Lib.hid (show Calls Try.prog 25 #[.agg #[.bool neg, .slice A n c], .int .i64 0, .agg #[.bool (decide (o1 < 0)), .slice A3 (digs 2 o1.natAbs).length c3], .int .i64 0] w4 (fun e w' => e = .returned (.bool true) ∧ w.grownBy w' (A.map Addr.block)) from by
      have h := HIs.out w4 w4.heap.size A3 c3 HB4.out (by rw [HZ.out]; exact bits_sl HO3.out) (Nat.le_refl _)
      rwa [HZ.out] at h)
    clear HIs
    go_wp2_with fail
    (with_reducible refine HC.out.mono ?_)
    rintro ex w6 ⟨rfl, hgr⟩
    have HR := Lib.hid hgr
    clear hgr
    go_wp2
    go_ret
    exact ⟨rfl, HR.out⟩
  · have HZ := Lib.hid hz
    clear hz
    have hgw : w.heap.size ≤ g3 := by omega
    have hb5 : Below w.heap.size w ((w4.setCell ⟨g3, 0, none⟩ (.bool sx)).setCell ⟨g3, 1, none⟩ (.slice Ax nx cx)) := (HB4.out.setCell (p := ⟨g3, 0, none⟩) hgw _).setCell (p := ⟨g3, 1, none⟩) hgw _
    have hV5 := Bb.set HV.out (.bool sx) (.slice Ax nx cx)
    have HC := Lib.hid (show Calls Try.prog 25 #[.agg #[.bool neg, .slice A n c], .int .i64 0, .agg #[.bool sx, .slice Ax nx cx], .int .i64 0] ((w4.setCell ⟨g3, 0, none⟩ (.bool sx)).setCell ⟨g3, 1, none⟩ (.slice Ax nx cx)) (fun e w' => e = .returned (.bool true) ∧ w.grownBy w' (A.map Addr.block)) from by
      have h := HIs.out _ w.heap.size Ax cx hb5 (by rw [HZ.out, HNX.out]; exact HX1.out _ hb5) hb5.size
      rwa [HZ.out, HNX.out, HSX.out] at h)
    have hbx := HW.out.2.2.1.below (C := W1.heap.size) ((HB3.out.setCell (p := ⟨g3, 0, none⟩) hg3 (.bool sx)).setCell (p := ⟨g3, 1, none⟩) hg3 (.slice Ax nx cx)) (by omega)
    have HK5 := Lib.hid (And.intro hV5 hbx)
    clear HIs hb5 hV5 hbx
    go_upto_region 9 with fail
    obtain ⟨y0, y1, _, _⟩ := HK5.out.1.facts
    obtain ⟨y2, y3, _, _⟩ := HK5.out.2.facts
    generalize ((w4.setCell ⟨g3, 0, none⟩ (.bool sx)).setCell ⟨g3, 1, none⟩ (.slice Ax nx cx)) = w5 at *
    clear a0 a1 b0 b1 v0 v1 v2 v3
    go_wp2_with fail
    (with_reducible refine HC.out.mono ?_)
    rintro ex w6 ⟨rfl, hgr⟩
    have HR := Lib.hid hgr
    clear hgr
    go_wp2
    go_ret
    exact ⟨rfl, HR.out⟩
  · have HZ := Lib.hid hz
    clear hz
    have hgw : w.heap.size ≤ g3 := by omega
    have hb5 : Below w.heap.size w ((w4.setCell ⟨g3, 0, none⟩ (.bool sx)).setCell ⟨g3, 1, none⟩ (.slice Ax nx cx)) := (HB4.out.setCell (p := ⟨g3, 0, none⟩) hgw _).setCell (p := ⟨g3, 1, none⟩) hgw _
    have hV5 := Bb.set HV.out (.bool sx) (.slice Ax nx cx)
    have HC := Lib.hid (show Calls Try.prog 25 #[.agg #[.bool neg, .slice A n c], .int .i64 0, .agg #[.bool sx, .slice Ax nx cx], .int .i64 0] ((w4.setCell ⟨g3, 0, none⟩ (.bool sx)).setCell ⟨g3, 1, none⟩ (.slice Ax nx cx)) (fun e w' => e = .returned (.bool true) ∧ w.grownBy w' (A.map Addr.block)) from by
      have h := HIs.out _ w.heap.size Ax cx hb5 (by rw [HZ.out, HNX.out]; exact HX1.out _ hb5) hb5.size
      rwa [HZ.out, HNX.out, HSX.out] at h)
    have hbx := HW.out.2.2.1.below (C := W1.heap.size) ((HB3.out.setCell (p := ⟨g3, 0, none⟩) hg3 (.bool sx)).setCell (p := ⟨g3, 1, none⟩) hg3 (.slice Ax nx cx)) (by omega)
    have HK5 := Lib.hid (And.intro hV5 hbx)
    clear HIs hb5 hV5 hbx
    go_upto_region 9 with fail
    obtain ⟨y0, y1, _, _⟩ := HK5.out.1.facts
    obtain ⟨y2, y3, _, _⟩ := HK5.out.2.facts
    generalize ((w4.setCell ⟨g3, 0, none⟩ (.bool sx)).setCell ⟨g3, 1, none⟩ (.slice Ax nx cx)) = w5 at *
    clear a0 a1 b0 b1 v0 v1 v2 v3
    go_wp2_with fail
    (with_reducible refine HC.out.mono ?_)
    rintro ex w6 ⟨rfl, hgr⟩
    have HR := Lib.hid hgr
    clear hgr
    go_wp2
    go_ret
    exact ⟨rfl, HR.out⟩
  · have HZ := Lib.hid hz
    clear hz
    have HC := Lib.hid (show Calls Try.prog 25 #[.agg #[.bool neg, .slice A n c], .int .i64 0, .agg #[.bool (decide (o1 < 0)), .slice A3 (digs 2 o1.natAbs).length c3], .int .i64 0] w4 (fun e w' => e = .returned (.bool true) ∧ w.grownBy w' (A.map Addr.block)) from by
      have h := HIs.out w4 w4.heap.size A3 c3 HB4.out (by rw [HZ.out]; exact bits_sl HO3.out) (Nat.le_refl _)
      rwa [HZ.out] at h)
    clear HIs
    go_wp2_with fail
    (with_reducible refine HC.out.mono ?_)
    rintro ex w6 ⟨rfl, hgr⟩
    have HR := Lib.hid hgr
    clear hgr
    go_wp2
    go_ret
    exact ⟨rfl, HR.out⟩
/-- so many factors stand in the variable -/
def PwL (W1 : World) (g3 : Nat) (x : Int) (iv : Value) (wr : World) (i : Nat) : Prop :=
  ∃ q A c, iv = .int .i64 (i : Int) ∧ x ^ i = q ∧ tooLong q = false ∧ Bb wr g3 (.bool (decide (q < 0))) (.slice A (digs 2 q.natAbs).length c) ∧ OwnI wr W1.heap.size A (digs 2 q.natAbs).length c (i64s (digs 2 q.natAbs)) ∧
    W1.heap.size ≤ g3 ∧ Below W1.heap.size W1 wr
theorem short_bits {q : Int} (h : tooLong q = false) : (digs 2 q.natAbs).length ≤ 4096 := by
  have h1 : decide (4096 < (digs 2 q.natAbs).length) = false := h
  have := of_decide_eq_false h1
  omega
theorem Long_q {q : Int} {b : Bool} (h : tooLong q = b) (s : Bool) (A : Option Addr) (c : Nat) (w : World) :
    Calls Try.prog 24 #[.agg #[.bool s, .slice A (digs 2 q.natAbs).length c]] w (LongPost b w) := by
  have h2 := rLong_any s A (digs 2 q.natAbs).length c w
  rwa [rlng_digs, h] at h2
set_option maxRecDepth 100000 in
set_option maxHeartbeats 4000000 in
theorem powered_loop {x z o1 : Int} {k : Nat} {code : Int} {w : World} {Ax A : Option Addr} {cx n c B : Nat} {neg : Bool} {l : List Nat} (hk : (k : Int) ≤ 9223372036854775807) (hx : SlI w w.heap.size Ax (digs 2 x.natAbs).length cx (digs 2 x.natAbs)) (ho : OwnU w B A n c (u32s l)) (hB : B ≤ w.heap.size) (hg : Good z code neg A n c l) (ho1 : o1 = 1) (hs : 2 ≤ (digs 2 x.natAbs).length) (hl : tooLong x = false) (hz : x ^ k = z) (hc : code = err (tooLong z)) :
    Calls Try.prog 57 #[.agg #[.bool (decide (x < 0)), .slice Ax (digs 2 x.natAbs).length cx], .int .i64 (k : Int), .int .i64 0, .agg #[.bool neg, .slice A n c], .int .i64 code] w (IsPost w (A.map Addr.block)) := by
  have hx2 : ¬ x.natAbs < 2 := by
    intro h
    have := digs_length_le (b := 2) (by decide) (n := x.natAbs) (k := 1) (by omega)
    omega
  have HBad := Lib.hid (fun (i : Nat) (hi : i ≤ k) (ht : tooLong (x ^ i) = true) w1 s A' n' c' (hb : Below w.heap.size w w1) => show Calls Try.prog 25 #[.agg #[.bool neg, .slice A n c], .int .i64 code, .agg #[.bool s, .slice A' n' c'], .int .i64 10] w1 (fun e w' => e = .returned (.bool true) ∧ w.grownBy w' (A.map Addr.block)) from by
    have h10 : code = 10 := by rw [hc, ← hz, pw_mono hx2 hi ht]; rfl
    obtain ⟨rfl, rfl⟩ := hg.2 (by omega)
    exact (is_bad s A A' c n' c' code 10 w1 (A.map Addr.block) (by omega) (.inl h10.symm)).mono fun e w' ⟨he, hgr⟩ => ⟨he, gb_below_trans hb hgr⟩)
  have HGood := Lib.hid (fun (ht : tooLong z = false) w5 B' A' c' (hb : Below w.heap.size w w5) (h9 : SlI w5 B' A' (digs 2 z.natAbs).length c' (digs 2 z.natAbs)) (hB' : B' ≤ w5.heap.size) => show Calls Try.prog 25 #[.agg #[.bool neg, .slice A n c], .int .i64 code, .agg #[.bool (decide (z < 0)), .slice A' (digs 2 z.natAbs).length c'], .int .i64 0] w5 (fun e w' => e = .returned (.bool true) ∧ w.grownBy w' (A.map Addr.block)) from by
    have h0 : code = 0 := by rw [hc, ht]; rfl
    subst h0
    exact pw_is ho hB hg ht hb h9 hB')
  have HSm := Lib.hid (fun w1 => show Calls Try.prog 39 #[.int .i64 1] w1 (PostB w1 o1) from Small_o ho1 w1)
  have HT1 := Lib.hid (show tooLong o1 = false by rw [ho1]; exact pw_small (x := 1) (by decide) 1)
  have HXL := Lib.hid (short_bits hl)
  have HO1 := Lib.hid ho1
  have HZ := Lib.hid hz
  have hkk : (0 : Int) ≤ (k : Int) := by omega
  have hsI : ¬ ((digs 2 x.natAbs).length : Int) < 2 := by omega
  have hsd : decide (((digs 2 x.natAbs).length : Int) < 2) = false := decide_eq_false hsI
  have hsd2 : decide ((digs 2 x.natAbs).length < 2) = false := decide_eq_false (by omega)
  have HX := Lib.hid (fun w1 (hb : Below w.heap.size w w1) => (hx.below hb (Nat.le_refl _)).mono hb.size)
  have HX1 := Lib.hid (fun w1 (hb : Below w.heap.size w w1) => hx.below hb (Nat.le_refl _))
  have e1 : decide ((k : Int) < 0) = false := decide_eq_false (by omega)
  clear hx ho hB hg hl ho1 hz hc hs hx2
  generalize hsx : decide (x < 0) = sx at *
  have HSX := Lib.hid hsx
  generalize hnx : (digs 2 x.natAbs).length = nx at *
  have HNX := Lib.hid hnx
  have HW := Lib.hid (P1_all w sx neg Ax A nx cx n c)
  clear hsx hnx
  go_enter Try.func57, Try.ntmps57
  go_upto_region 1 with fail
  obtain ⟨a0, a1, _, _⟩ := HW.out.2.1.facts
  obtain ⟨b0, b1, _, _⟩ := HW.out.2.2.1.facts
  have hz1 : ((w.alloc (.cells #[.bool sx, .slice Ax nx cx] 28)).alloc (.cells #[.bool neg, .slice A n c] 24)).heap.size = w.heap.size + 2 := HW.out.2.2.2
  generalize ((w.alloc (.cells #[.bool sx, .slice Ax nx cx] 28)).alloc (.cells #[.bool neg, .slice A n c] 24)) = W1 at *
  go_wp2_with fail
  (refine (HSm.out _).mono ?_)
  rintro ex w3 ⟨v3, rfl, ⟨A3, c3, rfl, ho3⟩, hb3⟩
  have hz3 := hb3.size
  have HB3 := Lib.hid (hb3.alloc hz3 (.cells #[.bool (decide (o1 < 0)), .slice A3 (digs 2 o1.natAbs).length c3] 28))
  have HO3 := Lib.hid (Own.alloc ho3 (.cells #[.bool (decide (o1 < 0)), .slice A3 (digs 2 o1.natAbs).length c3] 28))
  have HV := Lib.hid (Bb.new w3 (.bool (decide (o1 < 0))) (.slice A3 (digs 2 o1.natAbs).length c3))
  have hz4 : (w3.alloc (.cells #[.bool (decide (o1 < 0)), .slice A3 (digs 2 o1.natAbs).length c3] 28)).heap.size = w3.heap.size + 1 := by simp
  have HF3 := Lib.hid (fun g (e : A3 = some ⟨g, 0, none⟩) => show g ≠ w3.heap.size from Nat.ne_of_lt (own_block ho3 e).2)
  clear ho3 hb3
  go_upto_region 11 with fail
  have hgw3 : W1.heap.size ≤ w3.heap.size := hz3
  have HR0 := Lib.hid (show PwL W1 w3.heap.size x (.int .i64 0) (w3.alloc (.cells #[.bool (decide (o1 < 0)), .slice A3 (digs 2 o1.natAbs).length c3] 28)) 0 from
    ⟨o1, A3, c3, rfl, by rw [Int.pow_zero]; exact HO1.out.symm, HT1.out, HV.out, HO3.out, hgw3, HB3.out⟩)
  generalize (w3.alloc (.cells #[.bool (decide (o1 < 0)), .slice A3 (digs 2 o1.natAbs).length c3] 28)) = w4 at *
  generalize w3.heap.size = g3 at *
  go_wp2_with fail
  go_loopw [13] (fun iv wr => ∃ i : Nat, i ≤ k ∧ PwL W1 g3 x iv wr i) (fun iv _ => k - (intOf iv).toNat)
  case atStart => exact ⟨0, Nat.zero_le _, HR0.out⟩
  case round =>
    obtain ⟨i, hi, q, Aq, cq, rfl, hq, htq, hbb, hoq, hgq, hbw⟩ := hrel
    have HBq := Lib.hid hbb
    have HOq := Lib.hid hoq
    have HBw := Lib.hid hbw
    have HTq := Lib.hid htq
    have HQ := Lib.hid hq
    have hzw := hbw.size
    have hi0 : (0 : Int) ≤ (i : Int) := by omega
    obtain ⟨a0, a1, _, _⟩ := (HW.out.2.1.below (C := W1.heap.size) hbw (by omega)).facts
    obtain ⟨b0, b1, _, _⟩ := (HW.out.2.2.1.below (C := W1.heap.size) hbw (by omega)).facts
    obtain ⟨v0, v1, v2, v3⟩ := hbb.facts
    have HBx := Lib.hid (HW.out.1.trans (hbw.mono HW.out.1.size))
    have hgl := Bb.lt hbb
    clear hbb hoq hbw htq hq HR0
    by_cases hik : i < k
    · have hikI : (i : Int) < (k : Int) := by omega
      obtain ⟨q2, hq2⟩ : ∃ q2, q * x = q2 := ⟨_, rfl⟩
      have HQ2 := Lib.hid (show x ^ (i + 1) = q2 by rw [Int.pow_succ, HQ.out, hq2])
      have HTi := Lib.hid (show Calls Try.prog 52 #[.agg #[.bool (decide (q < 0)), .slice Aq (digs 2 q.natAbs).length cq], .agg #[.bool sx, .slice Ax nx cx]] wr (PostB wr q2) from by
        have h := Times_w (bits_sl HOq.out) (x := q) (y := x) (c' := cx) (A' := Ax) (by rw [HNX.out]; exact HX.out _ HBx.out) (Nat.le_trans (short_bits HTq.out) (by decide)) (by rw [HNX.out]; exact Nat.le_trans HXL.out (by decide)) hq2
        rwa [HSX.out, HNX.out] at h)
      clear hq2
      go_wp2_with fail
      (with_reducible refine HTi.out.mono ?_)
      rintro ex w5 ⟨v5, rfl, ⟨A5, c5, rfl, ho5⟩, hb5⟩
      have hz5 := hb5.size
      have hV6 := Bb.set (Bb.below HBq.out hb5 hgl) (.bool (decide (q2 < 0))) (.slice A5 (digs 2 q2.natAbs).length c5)
      obtain ⟨v0, v1, v2, v3⟩ := (Bb.below HBq.out hb5 hgl).facts
      have HW6 := Lib.hid (((HBw.out.trans (hb5.mono hzw)).setCell (p := ⟨g3, 0, none⟩) hgq (.bool (decide (q2 < 0)))).setCell (p := ⟨g3, 1, none⟩) hgq (.slice A5 (digs 2 q2.natAbs).length c5))
      have HO6 := Lib.hid (Own.mono (Own.farB (Own.farB ho5 (p := ⟨g3, 0, none⟩) hgl (.bool (decide (q2 < 0)))) (p := ⟨g3, 1, none⟩) hgl (.slice A5 (digs 2 q2.natAbs).length c5)) hzw)
      have HV6 := Lib.hid hV6
      clear ho5 hb5 hV6 a0 a1 b0 b1
      go_upto_region 15 with fail
      generalize ((w5.setCell ⟨g3, 0, none⟩ (.bool (decide (q2 < 0)))).setCell ⟨g3, 1, none⟩ (.slice A5 (digs 2 q2.natAbs).length c5)) = w6 at *
      obtain ⟨v0, v1, v2, v3⟩ := HV6.out.facts
      cases htl : tooLong q2
      · have HTl := Lib.hid htl
        clear htl
        go_wp2_with fail
        (refine (Long_q HTl.out _ _ _ _).mono ?_)
        rintro ex w7 ⟨rfl, hb7⟩
        have hz6 := HW6.out.size
        have HR7 := Lib.hid (show PwL W1 g3 x (.int .i64 ((i + 1 : Nat) : Int)) w7 (i + 1) from
          ⟨q2, A5, c5, rfl, HQ2.out, HTl.out, Bb.below HV6.out hb7 (Bb.lt HV6.out), HO6.out.below hb7 (Nat.le_refl _), hgq, HW6.out.trans (hb7.mono hz6)⟩)
        clear hb7
        go_wp2_with fail
        go_roundw
        case rel => exact ⟨i + 1, by omega, HR7.out⟩
        case measure => simp [intOf]; omega
      · have HTl := Lib.hid htl
        clear htl
        go_wp2_with fail
        (refine (Long_q HTl.out _ _ _ _).mono ?_)
        rintro ex w7 ⟨rfl, hb7⟩
        have hb17 := HW6.out.trans (hb7.mono HW6.out.size)
        obtain ⟨b0, b1, _, _⟩ := (HW.out.2.2.1.below (C := W1.heap.size) hb17 (by omega)).facts
        obtain ⟨v0, v1, _, _⟩ := (Bb.below HV6.out hb7 (Bb.lt HV6.out)).facts
        have HC := Lib.hid (HBad.out (i + 1) (by omega) (by rw [HQ2.out]; exact HTl.out) w7 (decide (q2 < 0)) A5 (digs 2 q2.natAbs).length c5 (HW.out.1.trans (hb17.mono HW.out.1.size)))
        clear hb7 hb17
        go_wp2_with fail
        (with_reducible refine HC.out.mono ?_)
        rintro ex w8 ⟨rfl, hgr⟩
        have HR := Lib.hid hgr
        clear hgr
        go_wp2
        go_ret
        exact ⟨rfl, HR.out⟩
    · obtain rfl : i = k := by omega
      have hqz : q = z := HQ.out.symm.trans HZ.out
      subst hqz
      have HC := Lib.hid (HGood.out HTq.out wr wr.heap.size Aq cq HBx.out (bits_sl HOq.out) (Nat.le_refl _))
      go_wp2_with fail
      (with_reducible refine HC.out.mono ?_)
      rintro ex w8 ⟨rfl, hgr⟩
      have HR := Lib.hid hgr
      clear hgr
      go_wp2
      go_ret
      exact ⟨rfl, HR.out⟩
end Go.Proofs.Ytggdmhkdmkldoaa

namespace Go.Proofs.Ytggdmhkdmkldoaa
open Go.RowKit Hb
set_option linter.unusedVariables false
set_option linter.unusedSimpArgs false

/-! ### the calls of the law of powers -/
theorem pw_code {x : Int} {k : Nat} (h : tooLong x = false) : pwCode (tooLong x) x (k : Int) = err (tooLong (x ^ k)) := by
  rw [pwCode, h, if_neg (by simp), if_neg (by omega), Int.toNat_natCast]
theorem len_lt2 {x : Int} (h : (digs 2 x.natAbs).length < 2) : x.natAbs < 2 := by
  have := lt_of_digs_length (b := 2) (n := x.natAbs) (k := 1) (by decide) (by omega)
  omega
theorem pow_one' {x : Int} (h : x.natAbs = 1) (k : Nat) : (k % 2 = 1 → x ^ k = x) ∧ (k % 2 ≠ 1 → x ^ k = 1) := by
  have e : x * x = 1 := by
    rcases (show x = 1 ∨ x = -1 by omega) with h | h
    · rw [h]; rfl
    · rw [h]; rfl
  constructor
  · intro hk
    obtain ⟨m, rfl⟩ : ∃ m, k = 2 * m + 1 := ⟨k / 2, by omega⟩
    rw [Int.pow_succ, Int.pow_mul, Int.pow_succ, Int.pow_succ, Int.pow_zero, Int.one_mul, e, Int.one_pow, Int.one_mul]
  · intro hk
    obtain ⟨m, rfl⟩ : ∃ m, k = 2 * m := ⟨k / 2, by omega⟩
    rw [Int.pow_mul, Int.pow_succ, Int.pow_succ, Int.pow_zero, Int.one_mul, e, Int.one_pow]
theorem powered_any {x z code E kn : Int} {w : World} {Ax A : Option Addr} {cx n c B : Nat} {neg : Bool} {l : List Nat} (hkn : kn ≤ 9223372036854775807) (hx : SlI w w.heap.size Ax (digs 2 x.natAbs).length cx (digs 2 x.natAbs)) (ho : OwnU w B A n c (u32s l)) (hB : B ≤ w.heap.size) (hg : Good z code neg A n c l) (hz : x ^ kn.toNat = z) (hc : pwCode (tooLong x) x kn = code) (hE : err (tooLong x) = E) :
    Calls Try.prog 57 #[.agg #[.bool (decide (x < 0)), .slice Ax (digs 2 x.natAbs).length cx], .int .i64 kn, .int .i64 E, .agg #[.bool neg, .slice A n c], .int .i64 code] w (IsPost w (A.map Addr.block)) := by
  cases hl : tooLong x
  · rw [hl] at hE
    obtain rfl : E = 0 := hE.symm
    by_cases hk : kn < 0
    · have h15 : code = 15 := by rw [← hc, pwCode, hl, if_neg (by simp), if_pos hk]
      obtain ⟨rfl, rfl⟩ := hg.2 (by omega)
      exact powered_bad _ _ _ _ _ _ _ _ _ _ _ (by omega) (.inr ⟨rfl, hk, h15⟩)
    · obtain ⟨k, rfl⟩ := Int.eq_ofNat_of_zero_le (show 0 ≤ kn by omega)
      rw [Int.toNat_natCast] at hz
      rw [pw_code hl, hz] at hc
      by_cases hs : (digs 2 x.natAbs).length < 2
      · have hx2 := len_lt2 hs
        have hlz : tooLong z = false := by rw [← hz]; exact pw_small hx2 k
        have h0 : code = 0 := by rw [← hc, hlz]; rfl
        subst h0
        refine powered_small (o1 := 1) (by omega) hkn hx ho hB hg hlz rfl hs ?_
        by_cases hk0 : k = 0
        · subst hk0
          exact .inl ⟨rfl, by rw [← hz, Int.pow_zero]⟩
        · by_cases hx0 : x = 0
          · refine .inr (.inl ⟨by omega, len_zero.2 hx0, ?_⟩)
            rw [← hz, hx0, Int.zero_pow hk0]
          · have h1 : x.natAbs = 1 := by omega
            have hne : (digs 2 x.natAbs).length ≠ 0 := fun e => hx0 (len_zero.1 e)
            by_cases hp : k % 2 = 1
            · exact .inr (.inr (.inl ⟨by omega, hne, by omega, by rw [← hz]; exact (pow_one' h1 k).1 hp⟩))
            · exact .inr (.inr (.inr ⟨by omega, hne, by omega, by rw [← hz]; exact (pow_one' h1 k).2 hp⟩))
      · exact powered_loop hkn hx ho hB hg rfl (by omega) hl hz hc.symm
  · rw [hl] at hE
    obtain rfl : E = 10 := hE.symm
    have h10 : code = 10 := by rw [← hc, pwCode, hl, if_pos rfl]
    subst h10
    obtain ⟨rfl, rfl⟩ := hg.2 (by decide)
    exact powered_bad _ _ _ _ _ _ _ _ _ _ _ (by decide) (.inl rfl)
section
variable {w : World} {A A' : Option Addr} {n c n' c' : Nat} {l m : List Nat} {na nb : Bool} {x y z E code : Int}
theorem nv_abs (na : Bool) {l : List Nat} {x : Int} (hx : ival na l = x) : nv W l = x.natAbs := by rw [← hx, ival_natAbs]
theorem Gcd_w {g : Nat} (hE : err (tooLong x || tooLong y) = E) (hs : SlU w w.heap.size A n c l) (ht : SlU w w.heap.size A' n' c' m) (hn : n ≤ 1048576) (hn' : n' ≤ 1048576) (hx : ival na l = x) (hy : ival nb m = y) (hz : Nat.gcd x.natAbs y.natAbs = g) :
    Calls Try.prog 53 #[.agg #[.bool na, .slice A n c], .agg #[.bool nb, .slice A' n' c']] w (AnsPost w (g : Int) E) := by
  have h := Gcd_any na nb hs ht (by omega) (by omega) (Nat.le_refl _) (Nat.le_refl _)
  rw [nv_abs na hx, nv_abs nb hy, hz, lng_ival hx, lng_ival hy, hE] at h
  exact h.mono fun _ _ h => h.ans
theorem Pow_w {kn : Int} (hs : SlU w w.heap.size A n c l) (hn : n ≤ 1048576) (hx : ival na l = x) (hz : x ^ kn.toNat = z) (hc : pwCode (tooLong x) x kn = code) :
    Calls Try.prog 54 #[.agg #[.bool na, .slice A n c], .int .i64 kn] w (AnsPost w z code) := by
  have h := Pow_any na hs (by omega) (Nat.le_refl _) kn
  rw [hx, lng_ival hx, hz, hc] at h
  exact h.mono fun _ _ h => h.ans
theorem Shift_w {kn : Int} (hkn : -9223372036854775808 ≤ kn) (hs : SlU w w.heap.size A n c l) (hn : n ≤ 1048576) (hx : ival na l = x) (hz : shZ x kn = z) (hc : err (tooLong x || tooLong z) = code) :
    Calls Try.prog 55 #[.agg #[.bool na, .slice A n c], .int .i64 kn] w (AnsPost w z code) := by
  have h := Shift_any na hs (by omega) (Nat.le_refl _) kn hkn
  rw [hx, lng_ival hx, hz, hc] at h
  exact h.mono fun _ _ h => h.ans
/-- a bad answer, or a good one -/
theorem is_b {code bad : Int} {neg : Bool} (s : Bool) (A' : Option Addr) (n' c' : Nat) (row : Option Nat) (hg : Good z code neg A n c l) (hc : code ≠ 0) (hb : bad = code) :
    Calls Try.prog 25 #[.agg #[.bool neg, .slice A n c], .int .i64 code, .agg #[.bool s, .slice A' n' c'], .int .i64 bad] w (IsPost w row) := by
  obtain ⟨rfl, rfl⟩ := hg.2 hc
  exact is_bad s A A' c n' c' code bad w row hc (.inl hb)
theorem is_0 {B : Nat} {code : Int} {neg : Bool} (ho : OwnU w B A n c (u32s l)) (hB : B ≤ w.heap.size) (hg : Good z code neg A n c l) (hz : z = 0) (hcode : code = 0) :
    Calls Try.prog 25 #[.agg #[.bool neg, .slice A n c], .int .i64 code, .agg #[.bool false, .slice none 0 0], .int .i64 0] w (IsPost w (A.map Addr.block)) := by
  have hl : (digs 2 z.natAbs).length = 0 := by rw [hz, show (0 : Int).natAbs = 0 from rfl, digs_zero]; rfl
  have h := is_w (bad := 0) (A' := none) (c' := 0) (B' := w.heap.size) ho hB hg (by rw [hz, show (0 : Int).natAbs = 0 from rfl, digs_zero]; exact SlI.nil _ _ _ _ (Nat.zero_le _)) (Nat.le_refl _) (by rw [codeOf, if_pos rfl, hz, hcode, show tooLong 0 = false by simp [tooLong, blen_zero]]; rfl)
  rwa [hl, hz, show decide ((0 : Int) < 0) = false from rfl] at h
end
theorem gcd_short {x y : Int} (hx : tooLong x = false) (hy : tooLong y = false) : tooLong ((Nat.gcd x.natAbs y.natAbs : Nat) : Int) = false := by
  by_cases h : x = 0
  · refine long_mono ?_ hy
    rw [h, show (0 : Int).natAbs = 0 from rfl, Nat.gcd_zero_left]
    simp
  · refine long_mono ?_ hx
    rw [Int.natAbs_natCast]
    exact Nat.gcd_le_left _ (by omega)
theorem up_long {x : Int} {kn : Int} (hx : x ≠ 0) (hk : 4096 < kn) : tooLong (shZ x kn) = true := by
  obtain ⟨k, rfl⟩ := Int.eq_ofNat_of_zero_le (show 0 ≤ kn by omega)
  have h1 := blen_pos (n := x.natAbs) (by omega)
  have h2 := blen_up (a := x.natAbs) (by omega) k
  refine decide_eq_true ?_
  rw [shZ_up, up_abs, h2]
  omega
end Go.Proofs.Ytggdmhkdmkldoaa

namespace Go.Proofs.Ytggdmhkdmkldoaa
open Go.RowKit Hb
set_option linter.unusedVariables false
set_option linter.unusedSimpArgs false

/-! ### the reference's number: the highest bits -/
def topb (X N k : Nat) : Nat := if k ≤ N then X / 2 ^ (N - k) else X * 2 ^ (k - N)
theorem topb_zero {X N : Nat} (h : X < 2 ^ N) : topb X N 0 = 0 := by
  rw [topb, if_pos (Nat.zero_le _), Nat.sub_zero, Nat.div_eq_of_lt h]
theorem topb_lt {X N : Nat} (h : X < 2 ^ N) (k : Nat) : topb X N k < 2 ^ k := by
  unfold topb
  split
  · rename_i hk
    rw [Nat.div_lt_iff_lt_mul (Nat.two_pow_pos _), ← Nat.pow_add, show k + (N - k) = N by omega]
    exact h
  · rename_i hk
    have : 2 ^ k = 2 ^ N * 2 ^ (k - N) := by rw [← Nat.pow_add, show N + (k - N) = k by omega]
    rw [this]
    exact Nat.mul_lt_mul_of_pos_right h (Nat.two_pow_pos _)
theorem bit_dig (X i : Nat) : (digs 2 X).getD i 0 = X / 2 ^ i % 2 := by
  rw [digs2_get, Nat.toNat_testBit]
theorem topb_succ (X N k : Nat) : topb X N (k + 1) = 2 * topb X N k + bitZ (digs 2 X) ((N : Int) - 1 - (k : Int)) := by
  unfold topb
  by_cases h : k + 1 ≤ N
  · obtain ⟨d, hd⟩ : ∃ d, N - (k + 1) = d := ⟨_, rfl⟩
    rw [if_pos h, if_pos (show k ≤ N by omega), show (N : Int) - 1 - (k : Int) = (d : Int) by omega, bitZ_nat, bit_dig, hd, show N - k = d + 1 by omega, Nat.pow_succ, ← Nat.div_div_eq_div_mul]
    omega
  · have hb : bitZ (digs 2 X) ((N : Int) - 1 - (k : Int)) = 0 := by rw [bitZ, if_neg (by omega)]
    rw [if_neg h, hb, Nat.add_zero]
    by_cases h2 : k ≤ N
    · obtain rfl : k = N := by omega
      rw [if_pos (Nat.le_refl _), Nat.sub_self, show k + 1 - k = 1 by omega]
      omega
    · rw [if_neg h2, show k + 1 - N = (k - N) + 1 by omega, Nat.pow_succ]
      rw [← Nat.mul_assoc, Nat.mul_comm]
      rfl
theorem bitZ_le (X : Nat) (i : Int) : bitZ (digs 2 X) i ≤ 1 := by
  unfold bitZ
  split
  · rw [bit_dig]; omega
  · omega
set_option maxRecDepth 100000 in
set_option maxHeartbeats 2000000 in
theorem number_any {X B N c : Nat} {A : Option Addr} {w : World} (hs : SlI w B A N c (digs 2 X)) (hX : X < 2 ^ N) {fr : Int} (hfr : (N : Int) - 1 = fr) (hN : N ≤ 1000000000) {V : Nat} (hV : topb X N 53 = V) :
    Calls Try.prog 99 #[.slice A N c, .int .i64 fr, .int .i64 53] w fun e w' => e = .returned (.int .u64 (V : Int)) ∧ w = w' := by
  have HT := Lib.hid (topb_succ X N)
  have HL := Lib.hid (topb_lt hX)
  have HV := Lib.hid hV
  have HBl := Lib.hid (bitZ_le X)
  have HBt := Lib.hid (fun i => rbit_any hs i)
  have H0 := Lib.hid (topb_zero hX)
  have HFr := Lib.hid hfr
  have hf1 : -1 ≤ fr := by omega
  have hf2 : fr ≤ 1000000000 := by omega
  clear hs hX hfr hN hV
  go_enter Try.func99, Try.ntmps99
  go_wp2_with fail
  go_loop [7, 8] (fun nv iv => ∃ k : Nat, k ≤ 53 ∧ iv = .int .i64 (k : Int) ∧ nv = .int .u64 ((topb X N k : Nat) : Int)) (fun _ iv => 53 - (intOf iv).toNat)
  case atStart => exact ⟨0, by omega, rfl, by rw [H0.out]; rfl⟩
  case round =>
    obtain ⟨k, hk, rfl, rfl⟩ := hrel
    by_cases hlt : k < 53
    · have hl := HL.out k
      have hl2 : topb X N k < 9007199254740992 := Nat.lt_trans hl (Nat.pow_lt_pow_right (by decide) hlt)
      have hs1 := HT.out k
      have hb1 := HBl.out ((N : Int) - 1 - (k : Int))
      have hc1 := HBt.out ((N : Int) - 1 - (k : Int))
      rw [HFr.out] at hs1 hb1 hc1
      generalize bitZ (digs 2 X) (fr - (k : Int)) = d at *
      generalize topb X N k = t at *
      have HS := Lib.hid hs1
      have HC := Lib.hid hc1
      have ht1 : (t : Int) < 9007199254740992 := by omega
      have ht0 : (0 : Int) ≤ (t : Int) := by omega
      have hd0 : (0 : Int) ≤ (d : Int) := by omega
      have hd1 : (d : Int) ≤ 1 := by omega
      have hk0 : (0 : Int) ≤ (k : Int) := by omega
      have hk9 : (k : Int) < 53 := by omega
      clear hl hl2 hs1 hb1 hc1
      go_wp2_with fail
      refine HC.out.mono ?_
      rintro e w' ⟨rfl, rfl⟩
      go_wp2_with fail
      go_round
      case rel => exact ⟨k + 1, by omega, by go_num, by rw [HS.out]; go_num⟩
      case measure => simp [intOf]; omega
    · have hk53 : k = 53 := by omega
      subst hk53
      rw [HV.out]
      go_wp2
      go_ret
      exact ⟨rfl, rfl⟩
/-! ### the reference's Float -/
def rfP (x : Int) : Nat := if x = 0 then 0 else if flInf x.natAbs then 0 else flBits x.natAbs + (if x < 0 then 9223372036854775808 else 0)
def RfPost (w : World) (F : Nat) (ok : Bool) (e : Ending) (w' : World) : Prop := e = .returned (.tuple #[.int .u64 (F : Int), .bool ok]) ∧ Below w.heap.size w w'
theorem fl_top {a : Nat} : flV a = topb a (blen a) 54 := by
  unfold flV topb
  by_cases h : 54 < blen a
  · rw [if_pos h, if_pos (by omega)]
  · rw [if_neg h]
    split
    · rename_i h2
      rw [show blen a = 54 by omega]; simp
    · rfl
theorem topb_half (a N k : Nat) : topb a N k = topb a N (k + 1) / 2 := by
  have h := topb_succ a N k
  have h2 := bitZ_le a ((N : Int) - 1 - (k : Int))
  omega
theorem topb_bit (a N k : Nat) : bitZ (digs 2 a) ((N : Int) - 1 - (k : Int)) = topb a N (k + 1) % 2 := by
  have h := topb_succ a N k
  have h2 := bitZ_le a ((N : Int) - 1 - (k : Int))
  omega
set_option maxRecDepth 100000 in
set_option maxHeartbeats 4000000 in
theorem rFloat_zero {A : Option Addr} {c : Nat} {w : World} (s : Bool) :
    Calls Try.prog 65 #[.agg #[.bool s, .slice A 0 c]] w (RfPost w 0 true) := by
  have HB := Lib.hid ((Below.refl w.heap.size w).alloc (Nat.le_refl _) (.cells #[.bool s, .slice A 0 c] 28))
  go_enter Try.func65, Try.ntmps65
  go_wp2
  go_ret2
  exact ⟨rfl, HB.out⟩
theorem wrap_add63 {x y : Int} (h0 : 0 ≤ x) (h1 : x < 9223372036854775808) (h : x + 9223372036854775808 = y) : IntKind.u64.wrap (x + 9223372036854775808) = y := by
  rw [h]; exact IntWalk.u64_in _ (by omega)
theorem ret2_u64 {a b : Int} {p q : Bool} (h : a = b) (h2 : p = q) : Ending.returned (.tuple #[.int .u64 a, .bool p]) = .returned (.tuple #[.int .u64 b, .bool q]) := by rw [h, h2]
set_option maxRecDepth 100000 in
set_option maxHeartbeats 4000000 in
theorem rFloat_main {a B c : Nat} {A : Option Addr} {w : World} (s : Bool) (hs : SlI w B A (digs 2 a).length c (digs 2 a)) (hB : B ≤ w.heap.size) (h0 : a ≠ 0) (hn : (digs 2 a).length ≤ 1000000000)
    {F : Nat} {ok : Bool} (hF : (if flInf a then 0 else flBits a + (if s then 9223372036854775808 else 0)) = F) (hok : (!flInf a) = ok) :
    Calls Try.prog 65 #[.agg #[.bool s, .slice A (digs 2 a).length c]] w (RfPost w F ok) := by
  have hb9 : Below w.heap.size w (w.alloc (.cells #[.bool s, .slice A (digs 2 a).length c] 28)) := (Below.refl w.heap.size w).alloc (Nat.le_refl _) _
  have HB := Lib.hid hb9
  have hs1 := hs.below (C := w.heap.size) hb9 hB
  have hx1 : (w.alloc (.cells #[.bool s, .slice A (digs 2 a).length c] 28)).heap[w.heap.size]? = some (.cells #[.bool s, .slice A (digs 2 a).length c] 28 (0, 0)) := heap_alloc_new w _
  obtain ⟨a0, a1, _, _⟩ := two_cells (Below.refl ((w.alloc (.cells #[.bool s, .slice A (digs 2 a).length c] 28)).heap.size) _) hx1 (by simp)
  clear hx1
  have hlen : (digs 2 a).length = blen a := rfl
  obtain ⟨N, hN⟩ : ∃ N, blen a = N := ⟨_, rfl⟩
  have hpos := blen_pos h0
  have haN := (blen_bounds h0).2
  have htop := flTop_bounds h0
  obtain ⟨t, ht⟩ : ∃ t, flTop a = t := ⟨_, rfl⟩
  have hV : flV a = topb a N 54 := by rw [← hN]; exact fl_top
  have hm53 : topb a N 53 = flV a / 2 := by rw [hV]; exact topb_half a N 53
  have hb54 : bitZ (digs 2 a) ((N : Int) - 54) = flV a % 2 := by rw [hV, ← topb_bit a N 53]; congr 1; omega
  obtain ⟨M, hM⟩ : ∃ M, flV a / 2 = M := ⟨_, rfl⟩
  obtain ⟨h, hh⟩ : ∃ M, flV a % 2 = M := ⟨_, rfl⟩
  obtain ⟨low, hlow⟩ : ∃ b, flLow a = b := ⟨_, rfl⟩
  rw [hM] at hm53
  rw [hh] at hb54
  have htU : t = M + (decide (h = 1) && (low || decide (M % 2 = 1))).toNat := by rw [← ht, flTop, flUp, hM, hh, hlow]
  have hL1 : N ≤ 54 → low = false := fun h9 => by rw [← hlow, flLow, hN, decide_eq_false (by omega), Bool.false_and]
  have hL2 : 54 < N → low = decide (0 < tlen ((digs 2 a).take (N - 54))) := fun h9 => by
    rw [← hlow, flLow, hN, decide_eq_true h9, Bool.true_and]
    refine decide_eq_decide.2 ?_
    rw [← nv_take_mod]
    have := tlen_zero_iff (b := 2) (by decide) ((digs 2 a).take (N - 54))
    omega
  have hInf : flInf a = (decide (1024 < N) || decide ((N + 1021) * 4503599627370496 + t = 9218868437227405312)) := by rw [flInf, hN, ht]
  have hBits : flBits a = (N + 1021) * 4503599627370496 + t := by rw [flBits, hN, ht]
  rw [hInf, hBits] at hF
  rw [hInf] at hok
  rw [hN] at hpos haN
  rw [hlen, hN] at hs1 hn a0 a1 HB hb9 ⊢
  rw [ht] at htop
  have HNum := Lib.hid (number_any (fr := (N : Int) - 1) hs1 haN rfl hn hm53)
  have HBit := Lib.hid (fun i (hi : bitZ (digs 2 a) i = h) => by have h9 := rbit_any hs1 i; rw [hi] at h9; exact h9)
  have HB54 := Lib.hid hb54
  have HCut := Lib.hid (fun m (hm : m ≤ N) => rcut_any (SlI.take hs1 hm))
  have hM9 : M ≤ 9007199254740991 := by have := (flV_bounds h0).2; omega
  clear hs hb9 hlen hV hm53 hb54 hlow hInf hBits hN ht haN h0 hM hh hB
  have hNI : (N : Int) ≤ 1000000000 := by omega
  have hNJ : (1 : Int) ≤ (N : Int) := by omega
  have dN0 : ((N : Int) == 0) = false := beq_eq_false_iff_ne.2 (by omega)
  have hMI : (M : Int) ≤ 9007199254740991 := by omega
  have hMJ : (0 : Int) ≤ (M : Int) := by omega
  obtain ⟨p1, hp1⟩ : ∃ p : Bool, ((h : Int) == 1) = p := ⟨_, rfl⟩
  obtain ⟨p2, hp2⟩ : ∃ p : Bool, (((M % 2 : Nat) : Int) == 1) = p := ⟨_, rfl⟩
  obtain ⟨r, hr⟩ : ∃ r, M % 2 = r := ⟨_, rfl⟩
  rw [hr] at hp2
  have hrI : (M : Int) % 2 = (r : Int) := by omega
  have hrT : (M : Int).tmod 2 = (r : Int) := by rw [Int.tmod_eq_emod_of_nonneg (by omega)]; exact hrI
  have HTU := Lib.hid (show t = M + (p1 && (low || p2)).toNat by
    rw [htU, ← hp1, ← hp2, hr]
    have x1 : ((h : Int) == 1) = decide (h = 1) := by rw [Bool.eq_iff_iff]; simp; omega
    have x2 : ((r : Int) == 1) = decide (r = 1) := by rw [Bool.eq_iff_iff]; simp; omega
    rw [x1, x2])
  obtain ⟨E, hE⟩ : ∃ E : Int, (N : Int) - 1 + 1023 = E := ⟨_, rfl⟩
  have HE := Lib.hid (show E = (N : Int) + 1022 by omega)
  have hcap := hs1.cap
  have hmax := hs1.max
  unfold maxLen at hmax
  have HL1 := Lib.hid hL1
  have HL2 := Lib.hid hL2
  have HF := Lib.hid (And.intro hF hok)
  have HTp := Lib.hid htop
  clear hs1 htU hL1 hL2 hF hok htop hr hpos hn
  go_enter Try.func65, Try.ntmps65
  go_wp2_with fail
  refine HNum.out.mono ?_
  rintro e w1 ⟨rfl, rfl⟩
  go_wp2_with fail
  refine (HBit.out _ HB54.out).mono ?_
  rintro e w1 ⟨rfl, rfl⟩
  go_upto_if 28 with fail
  generalize w.alloc (.cells #[.bool s, .slice A N c] 28) = W1 at *
  go_cut [5, 6] (fun s5 s6 wx => s5 = .int .u64 (t : Int) ∧ s6 = .int .u64 E ∧ wx = W1)
  case first =>
    cases p1
    · have HT1 := Lib.hid (show (t : Int) = (M : Int) by have h9 := HTU.out; simp at h9; omega)
      go_wp2_with fail
      go_meet
      exact ⟨by rw [HT1.out], rfl, rfl⟩
    · by_cases h54 : 54 < N
      · have hlo := HL2.out h54
        obtain ⟨m, hm⟩ : ∃ m, N - 54 = m := ⟨_, rfl⟩
        rw [hm] at hlo
        have HC := Lib.hid (HCut.out m (by omega))
        generalize tlen ((digs 2 a).take m) = tv at *
        have hmI : (N : Int) - 54 = (m : Int) := by omega
        have d54 : decide ((54 : Int) < (N : Int)) = true := decide_eq_true (by omega)
        have d54n : decide (54 < N) = true := decide_eq_true h54
        have hm0 : (0 : Int) ≤ (m : Int) := by omega
        have hmN : (m : Int) ≤ (N : Int) := by omega
        have hlo1 : decide ((0 : Int) < (tv : Int)) = low := by rw [hlo]; exact decide_eq_decide.2 (by omega)
        have hlo2 : decide (0 < tv) = low := hlo.symm
        clear hm hlo h54
        go_wp2_with fail
        refine HC.out.mono ?_
        rintro e w1 ⟨rfl, rfl⟩
        cases low <;> cases p2
        · have HT1 := Lib.hid (show (t : Int) = (M : Int) by have h9 := HTU.out; simp at h9; omega)
          go_wp2_with fail
          go_meet
          exact ⟨by rw [HT1.out], rfl, rfl⟩
        all_goals
          have HT1 := Lib.hid (show (t : Int) = (M : Int) + 1 by have h9 := HTU.out; simp at h9; omega)
          go_wp2_with fail
          go_meet
          exact ⟨by rw [HT1.out], rfl, rfl⟩
      · have hl0 := HL1.out (by omega)
        subst hl0
        have d54 : decide ((54 : Int) < (N : Int)) = false := decide_eq_false (by omega)
        have d54n : decide (54 < N) = false := decide_eq_false h54
        cases p2
        · have HT1 := Lib.hid (show (t : Int) = (M : Int) by have h9 := HTU.out; simp at h9; omega)
          go_wp2_with fail
          go_meet
          exact ⟨by rw [HT1.out], rfl, rfl⟩
        · have HT1 := Lib.hid (show (t : Int) = (M : Int) + 1 by have h9 := HTU.out; simp at h9; omega)
          go_wp2_with fail
          go_meet
          exact ⟨by rw [HT1.out], rfl, rfl⟩
  obtain ⟨rfl, rfl, rfl⟩ := hcut
  have hE9 := HE.out
  have hFo := HF.out
  have hTp := HTp.out
  clear hE hp1 hp2 HTU HL1 HL2 HF HTp hrI hrT hMI hMJ HNum HBit HB54 HCut hM9 dN0
  by_cases hi : 1024 < N
  · have d1 : decide ((1024 : Int) < (N : Int)) = true := decide_eq_true (by omega)
    have d1n : decide (1024 < N) = true := decide_eq_true hi
    have HR := Lib.hid (show 0 = F ∧ false = ok by
      have h1 := hFo.1; have h2 := hFo.2
      rw [d1n] at h1 h2
      exact ⟨h1, h2⟩)
    have hEa : 0 ≤ E := by omega
    have hEb : E ≤ 1000002000 := by omega
    by_cases hc : t = 9007199254740992
    · have dc : ((t : Int) == 9007199254740992) = true := beq_iff_eq.2 (by omega)
      have hta : (t : Int) ≤ 9007199254740992 := by omega
      have htb : 0 ≤ (t : Int) := by omega
      clear hFo hTp hi hc hE9
      go_wp2
      go_ret2
      exact ⟨ret2_u64 (by rw [← HR.out.1]; rfl) HR.out.2, HB.out⟩
    · have dc : ((t : Int) == 9007199254740992) = false := beq_eq_false_iff_ne.2 (by omega)
      have hta : (t : Int) ≤ 9007199254740992 := by omega
      have htb : 0 ≤ (t : Int) := by omega
      clear hFo hTp hi hc hE9
      go_wp2
      go_ret2
      exact ⟨ret2_u64 (by rw [← HR.out.1]; rfl) HR.out.2, HB.out⟩
  · have d1 : decide ((1024 : Int) < (N : Int)) = false := decide_eq_false (by omega)
    have d1n : decide (1024 < N) = false := decide_eq_false hi
    have hEa : 0 ≤ E := by omega
    have hEb : E ≤ 2046 := by omega
    rw [d1n, Bool.false_or] at hFo
    by_cases hc : t = 9007199254740992
    · have dc : ((t : Int) == 9007199254740992) = true := beq_iff_eq.2 (by omega)
      obtain ⟨E1, hE1⟩ : ∃ z : Int, E + 1 = z := ⟨_, rfl⟩
      obtain ⟨th, hth⟩ : ∃ z : Int, (t : Int) / 2 = z := ⟨_, rfl⟩
      have hta : (t : Int) ≤ 9007199254740992 := by omega
      have htb : 0 ≤ (t : Int) := by omega
      have htha : th ≤ 4503599627370496 := by omega
      have hthb : 0 ≤ th := by omega
      by_cases hj : N = 1024
      · have d2 : decide (2047 ≤ E1) = true := decide_eq_true (by omega)
        rw [decide_eq_true (show (N + 1021) * 4503599627370496 + t = 9218868437227405312 by omega)] at hFo
        have HR := Lib.hid (show 0 = F ∧ false = ok from hFo)
        have hE1a : E1 ≤ 2047 := by omega
        clear hFo hTp hi hc hE9 hj
        go_wp2
        go_ret2
        exact ⟨ret2_u64 (by rw [← HR.out.1]; rfl) HR.out.2, HB.out⟩
      · have d2 : decide (2047 ≤ E1) = false := decide_eq_false (by omega)
        rw [decide_eq_false (show ¬ (N + 1021) * 4503599627370496 + t = 9218868437227405312 by omega)] at hFo
        have hE1a : E1 ≤ 2046 := by omega
        have hE1b : 1 ≤ E1 := by omega
        have HOK := Lib.hid (show true = ok from hFo.2)
        have hthT : (t : Int).tdiv 2 = th := by rw [Int.tdiv_eq_ediv_of_nonneg htb]; exact hth
        obtain ⟨X1, hX1⟩ : ∃ z : Int, E1 * 4503599627370496 + th - 4503599627370496 = z := ⟨_, rfl⟩
        have hX1a : 0 ≤ X1 := by omega
        have hX1b : X1 < 9223372036854775808 := by omega
        have hw1 : IntKind.u64.wrap (E1 * 4503599627370496 + th - 4503599627370496) = X1 := by rw [hX1]; exact IntWalk.u64_in _ (by omega)
        have HB1 := Lib.hid (And.intro hX1a hX1b)
        cases s
        · have HR := Lib.hid (show X1 = (F : Int) by have h9 := hFo.1; simp at h9; omega)
          clear hFo hTp hi hc hE9 hj hX1 hX1a hX1b
          go_wp2
          go_ret2
          exact ⟨ret2_u64 HR.out HOK.out, HB.out⟩
        · have HR := Lib.hid (show ∃ y, X1 + 9223372036854775808 = y ∧ y = (F : Int) from ⟨_, rfl, by have h9 := hFo.1; simp at h9; omega⟩)
          clear hFo hTp hi hc hE9 hj hX1 hX1a hX1b
          go_upto_region 17 with fail
          clear hw1
          obtain ⟨y, hy1, hy2⟩ := HR.out
          have hbo := wrap_add63 HB1.out.1 HB1.out.2 hy1
          have HR2 := Lib.hid hy2
          clear hy1 hy2 HR
          go_wp2
          go_ret2
          exact ⟨ret2_u64 HR2.out HOK.out, HB.out⟩
    · have dc : ((t : Int) == 9007199254740992) = false := beq_eq_false_iff_ne.2 (by omega)
      have hta : (t : Int) ≤ 9007199254740992 := by omega
      have htb : 4503599627370496 ≤ (t : Int) := by omega
      have d2 : decide (2047 ≤ E) = false := decide_eq_false (by omega)
      rw [decide_eq_false (show ¬ (N + 1021) * 4503599627370496 + t = 9218868437227405312 by omega)] at hFo
      have HOK := Lib.hid (show true = ok from hFo.2)
      have hEc : 1 ≤ E := by omega
      obtain ⟨X1, hX1⟩ : ∃ z : Int, E * 4503599627370496 + (t : Int) - 4503599627370496 = z := ⟨_, rfl⟩
      have hX1a : 0 ≤ X1 := by omega
      have hX1b : X1 < 9223372036854775808 := by omega
      have hw1 : IntKind.u64.wrap (E * 4503599627370496 + (t : Int) - 4503599627370496) = X1 := by rw [hX1]; exact IntWalk.u64_in _ (by omega)
      have HB1 := Lib.hid (And.intro hX1a hX1b)
      cases s
      · have HR := Lib.hid (show X1 = (F : Int) by have h9 := hFo.1; simp at h9; omega)
        clear hFo hTp hi hc hE9 hX1 hX1a hX1b
        go_wp2
        go_ret2
        exact ⟨ret2_u64 HR.out HOK.out, HB.out⟩
      · have HR := Lib.hid (show ∃ y, X1 + 9223372036854775808 = y ∧ y = (F : Int) from ⟨_, rfl, by have h9 := hFo.1; simp at h9; omega⟩)
        clear hFo hTp hi hc hE9 hX1 hX1a hX1b
        go_upto_region 17 with fail
        clear hw1
        obtain ⟨y, hy1, hy2⟩ := HR.out
        have hbo := wrap_add63 HB1.out.1 HB1.out.2 hy1
        have HR2 := Lib.hid hy2
        clear hy1 hy2 HR
        go_wp2
        go_ret2
        exact ⟨ret2_u64 HR2.out HOK.out, HB.out⟩
end Go.Proofs.Ytggdmhkdmkldoaa

namespace Go.Proofs.Ytggdmhkdmkldoaa
open Go.RowKit Hb
set_option linter.unusedVariables false
set_option linter.unusedSimpArgs false

/-! ### the reference's OfFloat -/
set_option maxRecDepth 100000 in
set_option maxHeartbeats 2000000 in
theorem rShift_nought {A : Option Addr} {c : Nat} {w : World} (s : Bool) (hc : c ≤ maxLen) (kk : Int) (hk1 : -9223372036854775808 < kk) (hk2 : kk < 0) :
    Calls Try.prog 58 #[.agg #[.bool s, .slice A 0 c], .int .i64 kk] w (fun e w' => e = .returned (.agg #[.bool s, .slice A 0 c]) ∧ Below w.heap.size w w') := by
  have HB := Lib.hid (((Below.refl w.heap.size w).alloc (Nat.le_refl _) (.cells #[.bool s, .slice A 0 c] 28)).alloc (by simp) (.cells #[.bool false, .slice none 0 0] 28))
  have h1 := (Bb.new w (.bool s) (.slice A 0 c)).alloc (.cells #[.bool false, .slice none 0 0] 28)
  have h2 := Bb.new (w.alloc (.cells #[.bool s, .slice A 0 c] 28)) (.bool false) (.slice none 0 0)
  simp only [World.size_alloc] at h2
  obtain ⟨a0, a1, a2, a3⟩ := h1.facts
  obtain ⟨b0, b1, b2, b3⟩ := h2.facts
  have H2 := Lib.hid h2
  have d0 : decide ((0 : Int) ≤ kk) = false := decide_eq_false (by omega)
  have d1 : decide ((0 : Int) < -kk) = true := decide_eq_true (by omega)
  clear h1 h2
  go_enter Try.func58, Try.ntmps58
  go_wp2
  exact bodyPost_ret (v := .agg #[.bool s, .slice A 0 c]) (by simp [results, Try.results58, go_sem]) rfl ⟨rfl, ((Below.refl w.heap.size w).alloc (Nat.le_refl _) _).alloc (by simp) _⟩
theorem rShift_all {x : Int} {B : Nat} {A : Option Addr} {c : Nat} {w : World} (hs : SlI w B A (digs 2 x.natAbs).length c (digs 2 x.natAbs)) (hB : B ≤ w.heap.size) (hA : A = none → c = 0) (hn : (digs 2 x.natAbs).length ≤ 1000000) (kk : Int) (hk1 : -9223372036854775808 < kk) (hk2 : kk ≤ 1000000) (hx0 : x = 0 → kk < 0) {z : Int} (hz : shZ x kk = z) :
    Calls Try.prog 58 #[.agg #[.bool (decide (x < 0)), .slice A (digs 2 x.natAbs).length c], .int .i64 kk] w (ShPost w A z) := by
  by_cases h : x = 0
  · subst h
    have e : digs 2 (Int.natAbs 0) = [] := by rw [show Int.natAbs 0 = 0 from rfl, digs_zero]
    rw [shZ_nought] at hz
    subst hz
    rw [e] at hs ⊢
    refine (rShift_nought _ hs.max kk hk1 (hx0 rfl)).mono fun e' w' ⟨he, hb⟩ => ?_
    refine ⟨A, c, ?_, ?_, ?_, hb⟩
    · rw [he, e]; rfl
    · rw [e]; exact SlI.nil _ _ _ _ hs.max
    · rw [e]; exact fun h9 => absurd rfl h9
  · exact rShift_any hs hB hA h hn kk (by omega) hk2 hz
theorem rlaid_zn (neg : Bool) {B : Nat} {A : Option Addr} {l : List Nat} {n c : Nat} {w : World} (hs : SlI w B A n c l) (hB : B ≤ w.heap.size) (hnr : Nrm l) {z : Int} (hz : bval neg l = z) :
    Calls Try.prog 68 #[.bool neg, .slice A n c] w fun e w' => e = .returned (.agg #[.bool (decide (z < 0)), .slice A (digs 2 z.natAbs).length c]) ∧ Below w.heap.size w w' := by
  have e1 : digs 2 z.natAbs = l := by
    rw [← hz, bval_natAbs, ← tr_eq_digs (b := 2) (by decide) hs.dig, tr, tlen_of_nrm hnr, List.take_length]
  have e2 : (digs 2 z.natAbs).length = tlen l := by rw [e1]; exact (tlen_of_nrm hnr).symm
  rw [e2, ← hz, bval_sg]
  exact rlaid_any neg hs hB
theorem sl_far {w : World} {B n c : Nat} {A : Option Addr} {l : List Nat} (h : SlI w B A n c l) {p : Addr} (hp : l ≠ [] → ∀ b o, A = some ⟨b, o, none⟩ → b ≠ p.block) (u : Value) : SlI (w.setCell p u) B A n c l :=
  ⟨h.len, h.cap, h.max, h.dig, fun hx => by
    obtain ⟨b, o, hA, hlt, hc⟩ := h.rd hx
    refine ⟨b, o, hA, hlt, fun i v hi => ?_⟩
    rw [← hc i v hi]
    exact World.cell?_of_block (Below.heap_setCell w p u b (hp (fun e => hx (by rw [e]; rfl)) b o hA))⟩
def RoPost (w : World) (z : Int) (e : Ending) (w' : World) : Prop :=
  ∃ A c, e = .returned (.tuple #[.agg #[.bool (decide (z < 0)), .slice A (digs 2 z.natAbs).length c], .bool true]) ∧ SlI w' w'.heap.size A (digs 2 z.natAbs).length c (digs 2 z.natAbs) ∧ Below w.heap.size w w'
def RoBad (w : World) (e : Ending) (w' : World) : Prop := e = .returned (.tuple #[.agg #[.bool false, .slice none 0 0], .bool false]) ∧ Below w.heap.size w w'
set_option maxRecDepth 100000 in
set_option maxHeartbeats 2000000 in
theorem rOfFloat_no (f : Nat) (hf : f < 18446744073709551616) {w : World} (he : f / 4503599627370496 % 2048 = 2047) :
    Calls Try.prog 67 #[.int .u64 (f : Int)] w (RoBad w) := by
  obtain ⟨q, hq⟩ : ∃ q, f / 4503599627370496 = q := ⟨_, rfl⟩
  have hqI : (f : Int) / 4503599627370496 = (q : Int) := by omega
  have hqT : (f : Int).tdiv 4503599627370496 = (q : Int) := by rw [Int.tdiv_eq_ediv_of_nonneg (by omega)]; exact hqI
  have hm1 : (q : Int) % 2048 = 2047 := by omega
  have hm2 : (q : Int).tmod 2048 = 2047 := by rw [Int.tmod_eq_emod_of_nonneg (by omega)]; exact hm1
  have hq0 : (0 : Int) ≤ (q : Int) := by omega
  have hq4 : (q : Int) < 4096 := by omega
  have hf0 : (0 : Int) ≤ (f : Int) := by omega
  have HB := Lib.hid ((Below.refl w.heap.size w).alloc (Nat.le_refl _) (.cells #[.bool false, .slice none 0 0] 28))
  clear he hq hf
  go_enter Try.func67, Try.ntmps67
  go_wp2
  exact bodyPost_ret (v := .tuple #[.agg #[.bool false, .slice none 0 0], .bool false]) (by simp [results, Try.results67, go_sem]) rfl ⟨rfl, HB.out⟩
set_option maxRecDepth 100000 in
set_option maxHeartbeats 4000000 in
/-- the walk up to the bits: the mantissa's M, of the exponent ex -/
theorem rOfFloat_main (f : Nat) (hf : f < 18446744073709551616) {w : World} {ex M : Nat} (he : f / 4503599627370496 % 2048 = ex) (hx : ex < 2047) (hM : f % 4503599627370496 + (if 0 < ex then 4503599627370496 else 0) = M) {y : Int} (hy : shZ (M : Int) ((ex : Int) - 1075) = y) {z : Int} (hz : (if ex = 0 then 0 else if 9223372036854775808 ≤ f then -y else y) = z) :
    Calls Try.prog 67 #[.int .u64 (f : Int)] w (RoPost w z) := by
  obtain ⟨q, hq⟩ : ∃ q, f / 4503599627370496 = q := ⟨_, rfl⟩
  obtain ⟨m, hm⟩ : ∃ q, f % 4503599627370496 = q := ⟨_, rfl⟩
  have hqI : (f : Int) / 4503599627370496 = (q : Int) := by omega
  have hqT : (f : Int).tdiv 4503599627370496 = (q : Int) := by rw [Int.tdiv_eq_ediv_of_nonneg (by omega)]; exact hqI
  obtain ⟨E, hE⟩ : ∃ E : Int, (ex : Int) = E := ⟨_, rfl⟩
  have hm1 : (q : Int) % 2048 = E := by omega
  have hm2 : (q : Int).tmod 2048 = E := by rw [Int.tmod_eq_emod_of_nonneg (by omega)]; exact hm1
  have hmI : (f : Int) % 4503599627370496 = (m : Int) := by omega
  have hmT : (f : Int).tmod 4503599627370496 = (m : Int) := by rw [Int.tmod_eq_emod_of_nonneg (by omega)]; exact hmI
  have hq0 : (0 : Int) ≤ (q : Int) := by omega
  have hq4 : (q : Int) < 4096 := by omega
  have hf0 : (0 : Int) ≤ (f : Int) := by omega
  have hm0 : (0 : Int) ≤ (m : Int) := by omega
  have hm9 : (m : Int) < 4503599627370496 := by omega
  have hE0 : 0 ≤ E := by omega
  have hE9 : E < 2047 := by omega
  have d1 : (E == 2047) = false := beq_eq_false_iff_ne.2 (by omega)
  have hM9 : M < 9007199254740992 := by rw [← hM]; split <;> omega
  obtain ⟨ep, hep⟩ : ∃ p : Bool, decide (0 < E) = p := ⟨_, rfl⟩
  have hez : (E == 0) = !ep := by rw [← hep, Bool.eq_iff_iff]; simp; omega
  obtain ⟨sp, hsp⟩ : ∃ p : Bool, decide (9223372036854775808 ≤ f) = p := ⟨_, rfl⟩
  have HSP := Lib.hid hsp
  have HB := Lib.hid ((Below.refl w.heap.size w).alloc (Nat.le_refl _) (.cells #[.bool false, .slice none 0 0] 28))
  have HX := Lib.hid (Bb.new w (.bool false) (.slice none 0 0))
  have hsz0 : w.heap.size < (w.alloc (.cells #[.bool false, .slice none 0 0] 28)).heap.size := by simp
  have HM := Lib.hid (show (m : Int) + (if ep then 4503599627370496 else 0) = (M : Int) by
    rw [← hep, ← hM, hm]
    by_cases h9 : 0 < ex
    · rw [if_pos h9, decide_eq_true (show 0 < E by omega), if_pos rfl]; omega
    · rw [if_neg h9, decide_eq_false (show ¬ 0 < E by omega), if_neg (by simp)]; omega)
  have HNV := Lib.hid (show bval false (lb M 53) = (M : Int) by
    unfold bval
    rw [lb_nv, Nat.mod_eq_of_lt (show M < 2 ^ 53 from hM9)]
    rfl)
  have HLD := Lib.hid (lb_dig M 53)
  have HLL := Lib.hid (lb_length M 53)
  have HY := Lib.hid (show shZ (M : Int) (E - 1075) = y by rw [← hE]; exact hy)
  have HZ := Lib.hid (show z = if ep then (if sp then -y else y) else 0 by
    rw [← hz, ← hep, ← hsp]
    by_cases h9 : ex = 0
    · rw [if_pos h9, decide_eq_false (show ¬ 0 < E by omega)]; rfl
    · rw [if_neg h9, decide_eq_true (show 0 < E by omega), if_pos rfl]
      by_cases h8 : 9223372036854775808 ≤ f
      · rw [if_pos h8, decide_eq_true h8, if_pos rfl]
      · rw [if_neg h8, decide_eq_false h8, if_neg (by simp)])
  have HMM := Lib.hid hM9
  have HBM := Lib.hid (show (digs 2 M).length ≤ 53 from blen_le_iff.2 (show M < 2 ^ 53 from hM9))
  have HM0 := Lib.hid (show ep = true → (M : Int) ≠ 0 by
    intro h9
    rw [← hep] at h9
    have := of_decide_eq_true h9
    rw [if_pos (by omega)] at hM
    omega)
  clear he hq hm hM hy hz hf hx hE hsp hM9
  go_enter Try.func67, Try.ntmps67
  go_upto_if 19 with fail
  generalize w.alloc (.cells #[.bool false, .slice none 0 0] 28) = W0 at *
  go_cut [5] (fun s5 wx => s5 = .int .u64 (M : Int) ∧ wx = W0)
  case first =>
    cases ep
    · have HT1 := Lib.hid (show (m : Int) = (M : Int) by have h9 := HM.out; simp at h9; omega)
      go_wp2_with fail
      go_meet
      exact ⟨by rw [HT1.out], rfl⟩
    · have HT1 := Lib.hid (show (m : Int) + 4503599627370496 = (M : Int) by have h9 := HM.out; simp at h9; omega)
      go_wp2_with fail
      go_meet
      exact ⟨by rw [HT1.out], rfl⟩
  obtain ⟨rfl, rfl⟩ := hcut
  clear hqI hqT hm1 hm2 hmI hmT
  have HR0 := Lib.hid (OfRel.start wc)
  go_wp2_with fail
  go_loopw [6, 5, 7] (fun bv xv kv wr => ∃ k X : Nat, k ≤ 53 ∧ kv = .int .i64 (k : Int) ∧ xv = .int .u64 (X : Int) ∧ Hid (M / 2 ^ k = X) ∧ X < 9007199254740992 ∧ OfRel wc (lb M k) bv wr) (fun _ _ kv _ => 53 - (intOf kv).toNat)
  case atStart => exact ⟨0, M, by omega, rfl, rfl, Lib.hid (by rw [Nat.pow_zero, Nat.div_one]), HMM.out, HR0.out⟩
  case round =>
    obtain ⟨k, X, hk, rfl, rfl, hX, hXb, A2, n2, c2, rfl, ho2, hl2, hb2⟩ := hrel
    have HO2 := Lib.hid ho2
    have HL2 := Lib.hid hl2
    have HB2 := Lib.hid hb2
    have hz3 := hb2.size
    have hk0 : (0 : Int) ≤ (k : Int) := by omega
    clear ho2 hl2 hb2 HR0
    by_cases hk53 : k < 53
    · have hkI : (k : Int) < 53 := by omega
      obtain ⟨y1, hy1⟩ : ∃ y, X % 2 = y := ⟨_, rfl⟩
      obtain ⟨q1, hq1⟩ : ∃ q, X / 2 = q := ⟨_, rfl⟩
      have hyI : (X : Int) % 2 = (y1 : Int) := by omega
      have hqI : (X : Int) / 2 = (q1 : Int) := by omega
      have hqT : (X : Int).tdiv 2 = (q1 : Int) := by rw [Int.tdiv_eq_ediv_of_nonneg (by omega)]; exact hqI
      have hyt : (X : Int).tmod 2 = (y1 : Int) := by rw [Int.tmod_eq_emod_of_nonneg (by omega)]; exact hyI
      have hy2 : y1 < 2 := by omega
      have hn2 : n2 ≤ 4294967296 := by
        have h1 := HL2.out
        rw [lb_length] at h1
        omega
      have HLB := Lib.hid (show lb M (k + 1) = lb M k ++ [y1] by rw [lb, hX.out, hy1])
      have HXq := Lib.hid (show M / 2 ^ (k + 1) = q1 by rw [Nat.pow_succ, ← Nat.div_div_eq_div_mul, hX.out, hq1])
      have hqb : q1 < 9007199254740992 := by omega
      have hXI : (X : Int) < 9007199254740992 := by omega
      have hX0 : (0 : Int) ≤ (X : Int) := by omega
      have hyJ : (y1 : Int) < 2 := by omega
      have hy0 : (0 : Int) ≤ (y1 : Int) := by omega
      have hqJ : (q1 : Int) < 9007199254740992 := by omega
      have hq0 : (0 : Int) ≤ (q1 : Int) := by omega
      clear hy1 hq1
      go_wp2_with (at_builtin; refine wpList_append_i64 (by rfl) _ _ (by rfl) wc.heap.size A2 n2 c2 (lb M k) (by rfl) (Own.alloc HO2.out _) wr.heap.size y1 (by rfl) (by simp [go_sem]) hn2 (by simp; omega) ?_; intro A3 c3 w3 ho3 hb3)
      have HR3 := Lib.hid (show OfRel wc (lb M (k + 1)) (.slice A3 (n2 + 1) c3) w3 from ⟨A3, n2 + 1, c3, rfl, by rw [HLB.out]; exact ho3, by rw [HLB.out, List.length_append, HL2.out]; rfl, (HB2.out.alloc HB2.out.size _).trans hb3⟩)
      clear ho3 hb3
      go_wp2_with fail
      go_roundw
      case rel => exact ⟨k + 1, q1, by omega, by go_num, rfl, HXq, hqb, HR3.out⟩
      case measure => simp [intOf]; omega
    · obtain rfl : k = 53 := by omega
      clear hX hXb
      have HXr := Lib.hid (HX.out.below HB2.out hsz0)
      go_wp2_with fail
      (with_reducible refine (rlaid_at false HO2.out HL2.out HLD.out HNV.out).mono ?_)
      rintro ex5 w5 ⟨rfl, ho5, hb5⟩
      have hz5 := hb5.size
      have HO5 := Lib.hid ho5
      have HB5 := Lib.hid (HB2.out.trans (hb5.mono HB2.out.size))
      have HX5 := Lib.hid (HXr.out.below hb5 (by omega))
      clear ho5 hb5 HO2
      have hsh := (rShift_all (x := (M : Int)) (z := y) (bits_sl HO5.out) (Nat.le_refl _) (own_none HO5.out) (by rw [Int.natAbs_natCast]; have := HBM.out; omega) (E - 1075) (by omega) (by omega) (by
        intro h9
        cases hq9 : ep
        · rw [hq9] at hep
          have := of_decide_eq_false hep
          omega
        · exact absurd h9 (HM0.out hq9)) HY.out)
      rw [Int.natAbs_natCast] at hsh
      have HSh := Lib.hid hsh
      clear hsh
      go_wp2_with fail
      (with_reducible refine HSh.out.mono ?_)
      rintro ex6 w6 ⟨A6, c6, rfl, hs6, hap6, hb6⟩
      have hz6 := hb6.size
      have HS6 := Lib.hid hs6
      have HAp := Lib.hid (show digs 2 y.natAbs ≠ [] → ∀ b o, A6 = some ⟨b, o, none⟩ → wc.heap.size ≤ b by
        intro h9 b o e
        rcases hap6 h9 b o e with ⟨o', e2⟩ | h8
        · exact (own_block HO5.out e2).1
        · omega)
      have HB6 := Lib.hid (HB5.out.trans (hb6.mono HB5.out.size))
      have HX6 := Lib.hid (HX5.out.below hb6 (by omega))
      clear hs6 hap6 hb6
      have hy0 : 0 ≤ y := by
        rw [← HY.out, shZ]
        split
        · exact Int.mul_nonneg (by omega) (Int.pow_nonneg (by decide))
        · exact Int.ediv_nonneg (by omega) (Int.pow_nonneg (by decide))
      cases ep
      · have HZ0 := Lib.hid (show bval sp ([] : List Nat) = z by
          rw [HZ.out]
          cases sp <;> rfl)
        obtain ⟨g8, hg8⟩ : ∃ g, w6.heap.size = g := ⟨_, rfl⟩
        have HX7 := Lib.hid (Bb.alloc HX6.out (.cells #[.bool false, .slice none 0 0] 28))
        have HB7 := Lib.hid (HB6.out.alloc HB6.out.size (.cells #[.bool false, .slice none 0 0] 28))
        have hspI : decide ((9223372036854775808 : Int) ≤ (f : Int)) = sp := by rw [← HSP.out]; exact decide_eq_decide.2 (by omega)
        go_wp2_with fail
        (with_reducible refine (rlaid_zn sp (SlI.nil _ _ none 0 (Nat.zero_le _)) (Nat.zero_le _) Nrm.nil HZ0.out).mono ?_)
        rintro ex9 w9 ⟨rfl, hb9⟩
        have hz9 := hb9.size
        simp only [World.size_alloc] at hz9
        have HX9 := Lib.hid (HX7.out.below hb9 (by simp; omega))
        have HB9 := Lib.hid (HB7.out.trans (hb9.mono HB7.out.size))
        have HS9 := Lib.hid (show SlI w9 w9.heap.size none (digs 2 z.natAbs).length 0 (digs 2 z.natAbs) by
          have e9 : digs 2 z.natAbs = [] := by rw [show z = 0 by rw [HZ.out]; rfl, show Int.natAbs 0 = 0 from rfl, digs_zero]
          rw [e9]
          exact SlI.nil _ _ _ _ (Nat.zero_le _))
        have HA9 := Lib.hid (show digs 2 z.natAbs ≠ [] → ∀ b o, (none : Option Addr) = some ⟨b, o, none⟩ → b ≠ w.heap.size from fun _ _ _ e => by cases e)
        clear hb9 hspI
        obtain ⟨r0, r1, r2, r3⟩ := HX9.out.facts
        have HFin := Lib.hid (show RoPost w z (.returned (.tuple #[.agg #[.bool (decide (z < 0)), .slice none (digs 2 z.natAbs).length 0], .bool true])) ((w9.setCell ⟨w.heap.size, 0, none⟩ (.bool (decide (z < 0)))).setCell ⟨w.heap.size, 1, none⟩ (.slice none (digs 2 z.natAbs).length 0)) from by
          have hb := ((HB.out.trans (HB9.out.mono HB.out.size)).setCell (p := ⟨w.heap.size, 0, none⟩) (Nat.le_refl _) (.bool (decide (z < 0)))).setCell (p := ⟨w.heap.size, 1, none⟩) (Nat.le_refl _) (.slice none (digs 2 z.natAbs).length 0)
          refine ⟨none, 0, rfl, ?_, hb⟩
          have h1 := sl_far (sl_far HS9.out (p := ⟨w.heap.size, 0, none⟩) HA9.out (.bool (decide (z < 0)))) (p := ⟨w.heap.size, 1, none⟩) HA9.out (.slice none (digs 2 z.natAbs).length 0)
          exact h1.mono (by simp))
        go_wp2
        exact bodyPost_ret (v := .tuple #[.agg #[.bool (decide (z < 0)), .slice none (digs 2 z.natAbs).length 0], .bool true]) (by simp [results, Try.results67, go_sem, r0, r1]) rfl HFin.out
      · have HZ0 := Lib.hid (show bval sp (digs 2 y.natAbs) = z by
          rw [HZ.out]
          unfold bval
          rw [nv_digs (by decide)]
          cases sp
          · simp; omega
          · simp; omega)
        obtain ⟨g8, hg8⟩ : ∃ g, w6.heap.size = g := ⟨_, rfl⟩
        have HX7 := Lib.hid (Bb.alloc HX6.out (.cells #[.bool (decide (y < 0)), .slice A6 (digs 2 y.natAbs).length c6] 28))
        have HB7 := Lib.hid (HB6.out.alloc HB6.out.size (.cells #[.bool (decide (y < 0)), .slice A6 (digs 2 y.natAbs).length c6] 28))
        have hspI : decide ((9223372036854775808 : Int) ≤ (f : Int)) = sp := by rw [← HSP.out]; exact decide_eq_decide.2 (by omega)
        have HS7 := Lib.hid ((HS6.out.below (C := w6.heap.size) ((Below.refl w6.heap.size w6).alloc (Nat.le_refl _) (.cells #[.bool (decide (y < 0)), .slice A6 (digs 2 y.natAbs).length c6] 28)) (Nat.le_refl _)).mono (B' := (w6.alloc (.cells #[.bool (decide (y < 0)), .slice A6 (digs 2 y.natAbs).length c6] 28)).heap.size) (by simp))
        go_wp2_with fail
        (with_reducible refine (rlaid_zn sp HS7.out (Nat.le_refl _) (nrm_digs (by decide) _) HZ0.out).mono ?_)
        rintro ex9 w9 ⟨rfl, hb9⟩
        have hz9 := hb9.size
        simp only [World.size_alloc] at hz9
        have HX9 := Lib.hid (HX7.out.below hb9 (by simp; omega))
        have HB9 := Lib.hid (HB7.out.trans (hb9.mono HB7.out.size))
        have e9 : digs 2 z.natAbs = digs 2 y.natAbs := by rw [← HZ0.out, bval_natAbs, nv_digs (by decide)]
        have HS9 := Lib.hid (show SlI w9 w9.heap.size A6 (digs 2 z.natAbs).length c6 (digs 2 z.natAbs) by
          rw [e9]
          exact (HS7.out.below hb9 (Nat.le_refl _)).mono hb9.size)
        have HA9 := Lib.hid (show digs 2 z.natAbs ≠ [] → ∀ b o, A6 = some ⟨b, o, none⟩ → b ≠ w.heap.size by
          rw [e9]
          intro h9 b o e
          have := HAp.out h9 b o e
          omega)
        clear e9
        clear hb9 hspI
        obtain ⟨r0, r1, r2, r3⟩ := HX9.out.facts
        have HFin := Lib.hid (show RoPost w z (.returned (.tuple #[.agg #[.bool (decide (z < 0)), .slice A6 (digs 2 z.natAbs).length c6], .bool true])) ((w9.setCell ⟨w.heap.size, 0, none⟩ (.bool (decide (z < 0)))).setCell ⟨w.heap.size, 1, none⟩ (.slice A6 (digs 2 z.natAbs).length c6)) from by
          have hb := ((HB.out.trans (HB9.out.mono HB.out.size)).setCell (p := ⟨w.heap.size, 0, none⟩) (Nat.le_refl _) (.bool (decide (z < 0)))).setCell (p := ⟨w.heap.size, 1, none⟩) (Nat.le_refl _) (.slice A6 (digs 2 z.natAbs).length c6)
          refine ⟨A6, c6, rfl, ?_, hb⟩
          have h1 := sl_far (sl_far HS9.out (p := ⟨w.heap.size, 0, none⟩) HA9.out (.bool (decide (z < 0)))) (p := ⟨w.heap.size, 1, none⟩) HA9.out (.slice A6 (digs 2 z.natAbs).length c6)
          exact h1.mono (by simp))
        go_wp2
        exact bodyPost_ret (v := .tuple #[.agg #[.bool (decide (z < 0)), .slice A6 (digs 2 z.natAbs).length c6], .bool true]) (by simp [results, Try.results67, go_sem, r0, r1]) rfl HFin.out
end Go.Proofs.Ytggdmhkdmkldoaa

namespace Go.Proofs.Ytggdmhkdmkldoaa
open Go.RowKit Hb
set_option linter.unusedVariables false
set_option linter.unusedSimpArgs false

/-! ### what the law BigintFloats calls, by what the integers and bits are -/
theorem rFloat_any {x : Int} {B c : Nat} {A : Option Addr} {w : World} (hs : SlI w B A (digs 2 x.natAbs).length c (digs 2 x.natAbs)) (hB : B ≤ w.heap.size) (hn : (digs 2 x.natAbs).length ≤ 1000000000) {F : Nat} {ok : Bool} (hF : rfP x = F) (hok : (!flInf x.natAbs) = ok) :
    Calls Try.prog 65 #[.agg #[.bool (decide (x < 0)), .slice A (digs 2 x.natAbs).length c]] w (RfPost w F ok) := by
  by_cases h : x = 0
  · subst h
    have e : digs 2 (Int.natAbs 0) = [] := by rw [show Int.natAbs 0 = 0 from rfl, digs_zero]
    rw [e]
    have e1 : F = 0 := by rw [← hF, rfP, if_pos rfl]
    have e2 : ok = true := by rw [← hok, show Int.natAbs 0 = 0 from rfl, flInf_zero]; rfl
    subst e1 e2
    exact rFloat_zero _
  · refine rFloat_main (decide (x < 0)) hs hB (by omega) hn ?_ hok
    rw [← hF, rfP, if_neg h]
    split
    · rfl
    · by_cases h9 : x < 0
      · rw [if_pos h9, decide_eq_true h9, if_pos rfl]
      · rw [if_neg h9, decide_eq_false h9, if_neg (by simp)]
/-- the code of OfFloat -/
def ofC (f : Nat) : Int := if f / 4503599627370496 % 2048 = 2047 then 14 else 0
theorem OfFloat_a {f : Nat} (w : World) (hf : f < 18446744073709551616) {z code : Int} (hz : ofZ f = z) (hc : ofC f = code) :
    Calls Try.prog 66 #[.int .u64 (f : Int)] w (AnsPost w z code) := by
  by_cases h : f / 4503599627370496 % 2048 = 2047
  · have e : code = 14 := by rw [← hc, ofC, if_pos h]
    subst e
    refine (OfFloat_no f hf h).mono fun e w' ⟨he, hb⟩ => ?_
    exact PostC.ans (z := z) (code := 14) ⟨zeroV, he, fun h9 => absurd h9 (by decide), fun _ => rfl, hb⟩
  · have e : code = 0 := by rw [← hc, ofC, if_neg h]
    subst e
    refine (OfFloat_z w ⟨hf, h⟩ hz).mono fun e w' ⟨v, he, hr, hb⟩ => ?_
    exact PostC.ans (z := z) (code := 0) ⟨v, he, fun _ => hr, fun h9 => absurd rfl h9, hb⟩
theorem rOfFloat_z {f : Nat} (w : World) (hf : f < 18446744073709551616) (h : f / 4503599627370496 % 2048 ≠ 2047) {z : Int} (hz : ofZ f = z) :
    Calls Try.prog 67 #[.int .u64 (f : Int)] w (RoPost w z) := by
  obtain ⟨ex, he⟩ : ∃ e, f / 4503599627370496 % 2048 = e := ⟨_, rfl⟩
  obtain ⟨M, hM⟩ : ∃ M, f % 4503599627370496 + (if 0 < ex then 4503599627370496 else 0) = M := ⟨_, rfl⟩
  obtain ⟨y, hy⟩ : ∃ y, shZ (M : Int) ((ex : Int) - 1075) = y := ⟨_, rfl⟩
  refine rOfFloat_main f hf he (by omega) hM hy ?_
  rw [← hz, ofZ]
  by_cases h0 : ex = 0
  · have e : ofN f = 0 := by rw [ofN, he, if_pos h0]
    rw [if_pos h0, e]
    split <;> rfl
  · rw [if_neg h0]
    rw [if_pos (by omega)] at hM
    have e : (ofN f : Int) = y := by
      rw [ofN, he, if_neg h0, ← hy, show 4503599627370496 + f % 4503599627370496 = M by omega]
      by_cases h1 : 1075 ≤ ex
      · obtain ⟨k, hk⟩ : ∃ k, ex - 1075 = k := ⟨_, rfl⟩
        rw [if_pos h1, hk, show (ex : Int) - 1075 = (k : Int) by omega, shZ_up, Int.natCast_mul, Int.natCast_pow]
        rfl
      · obtain ⟨k, hk⟩ : ∃ k, 1075 - ex = k := ⟨_, rfl⟩
        rw [if_neg h1, hk, show (ex : Int) - 1075 = -(k : Int) by omega, shZ_down _ (by omega), Int.natCast_ediv, Int.natCast_pow]
        rfl
    rw [e]
    by_cases h2 : f < 9223372036854775808
    · rw [if_pos h2, if_neg (by omega)]
    · rw [if_neg h2, if_pos (by omega)]
theorem ofZ_short {f : Nat} (h : f / 4503599627370496 % 2048 ≠ 2047) : tooLong (ofZ f) = false := by
  have e : (ofZ f).natAbs = ofN f := by unfold ofZ; split <;> omega
  refine tooLong_blen (k := 1024) ?_ (by decide)
  rw [e]
  by_cases h0 : f / 4503599627370496 % 2048 = 0
  · rw [ofN, if_pos h0, blen_zero]; omega
  · obtain ⟨ex, he⟩ : ∃ e, f / 4503599627370496 % 2048 = e := ⟨_, rfl⟩
    obtain ⟨M, hM⟩ : ∃ M, 4503599627370496 + f % 4503599627370496 = M := ⟨_, rfl⟩
    rw [ofN, if_neg h0, he, hM]
    have hM9 : M < 2 ^ 53 := by omega
    split
    · obtain ⟨k, hk⟩ : ∃ k, ex - 1075 = k := ⟨_, rfl⟩
      rw [hk]
      refine Nat.le_trans (blen_le_iff (k := 53 + k).2 ?_) (by omega)
      rw [Nat.pow_add]
      exact Nat.mul_lt_mul_of_pos_right hM9 (Nat.two_pow_pos _)
    · exact Nat.le_trans (blen_le_iff (k := 53).2 (Nat.lt_of_le_of_lt (Nat.div_le_self _ _) hM9)) (by decide)
theorem Long_b {q : Int} {b : Bool} (h : tooLong q = b) (s : Bool) (A : Option Addr) (c : Nat) (w : World) :
    Calls Try.prog 24 #[.agg #[.bool s, .slice A (digs 2 q.natAbs).length c]] w (LongPost b w) := by
  have h2 := rLong_any s A (digs 2 q.natAbs).length c w
  rwa [rlng_digs, h] at h2
theorem tf_w {w : World} {A : Option Addr} {n c : Nat} {l : List Nat} {na : Bool} {x : Int} {F : Nat} {co : Int} (hs : SlU w w.heap.size A n c l) (hn : n ≤ 1048576) (hx : ival na l = x) (hF : tfB x = F) (hco : tfC x = co) :
    Calls Try.prog 64 #[.agg #[.bool na, .slice A n c]] w (TfPost w F co) := ToFloat_any na hs (by omega) hx hF hco
theorem rfP_tfB {x : Int} (h : tooLong x = false) : tfB x = rfP x := by unfold tfB rfP; rw [h]; rfl
end Go.Proofs.Ytggdmhkdmkldoaa

namespace Go.Proofs.Ytggdmhkdmkldoaa
open Go.RowKit Hb
set_option linter.unusedVariables false
set_option linter.unusedSimpArgs false

set_option maxRecDepth 100000 in
set_option maxHeartbeats 16000000 in
theorem Floats_long_good (na : Bool) {Aa : Option Addr} {la : List Nat} {n_a ca : Nat} {w : World} (hsa : SlU w w.heap.size Aa n_a ca la) (hAa : Aa = none → ca = 0) (hna : n_a ≤ 1048576) (f : Nat) (hf : f < 18446744073709551616)
    {x : Int} (hx : ival na la = x) (hl : tooLong x = true) (hg : f / 4503599627370496 % 2048 ≠ 2047) :
    Calls Try.prog 14 #[.agg #[.bool na, .slice Aa n_a ca], .int .u64 (f : Int)] w fun e w' => e = .returned (.bool true) ∧ Below w.heap.size w w' := by
  have HX := Lib.hid hx
  have HL := Lib.hid hl
  have HFf := Lib.hid hf
  have HG := Lib.hid hg
  obtain ⟨z, hz⟩ : ∃ z, ofZ f = z := ⟨_, rfl⟩
  have HZ := Lib.hid hz
  have HCf := Lib.hid (show ofC f = 0 by rw [ofC, if_neg hg])
  have HCo := Lib.hid (show (0 : Int) = codeOf 0 z by rw [codeOf, if_pos rfl, ← hz, ofZ_short hg]; rfl)
  have HTB := Lib.hid (show tfB x = 0 by rw [tfB, hl, if_pos rfl])
  have HTC := Lib.hid (show tfC x = 10 by rw [tfC, hl, if_pos rfl])
  have HNX := Lib.hid (bits_le hsa hna hx)
  have HA := Lib.hid (And.intro hAa hna)
  have HSA := Lib.hid (fun w1 (hb : Below w.heap.size w w1) => hsa.below hb (Nat.le_refl _))
  have HLA := Lib.hid (And.intro hsa.len hsa.dig)
  have he0 := (Ev.var (Ev.nil w) 24 (.bool na) (.slice Aa n_a ca))
  try simp only [World.size_alloc] at he0
  have HE0 : Hid (Ev w (w.alloc (.cells #[.bool na, .slice Aa n_a ca] 24)) [.var 24 w.heap.size (.bool na) (.slice Aa n_a ca)]) := Lib.hid he0
  clear he0
  clear hsa hAa hna hx hl hz hf hg
  go_enter Try.func14, Try.ntmps14
  go_upto_region 1 with fail
  generalize (w.alloc (.cells #[.bool na, .slice Aa n_a ca] 24)) = w1 at *
  go_wp2_with fail
  refine (awake_any _).mono ?_
  rintro ex w1' ⟨rfl, hb1⟩
  have HE1 : Hid (Ev w w1' [.var 24 w.heap.size (.bool na) (.slice Aa n_a ca)]) := Lib.hid (HE0.out.below hb1)
  clear hb1 
  go_upto_region 2 with fail
  obtain ⟨x2a, x2b, x2c, x2d⟩ := HE1.out.cells (.head _)
  go_wp2_with fail
  refine (Of_w ((HSA.out _ HE1.out.b).mono HE1.out.b.size) HA.out.2 HX.out).mono ?_
  rintro ex w3' ⟨v, rfl, ⟨A3, c3, rfl, ho3⟩, hb3⟩
  have HE3 : Hid (Ev w (w3'.alloc (.cells #[.bool (decide (x < 0)), .slice A3 ((digs 2 x.natAbs).length) c3] 28)) [.var 28 w3'.heap.size (.bool (decide (x < 0))) (.slice A3 ((digs 2 x.natAbs).length) c3), .own 3 A3 ((digs 2 x.natAbs).length) c3 (i64s (digs 2 x.natAbs)), .var 24 w.heap.size (.bool na) (.slice Aa n_a ca)]) := Lib.hid (Ev.var (Ev.own HE1.out hb3 ho3) 28 (.bool (decide (x < 0))) (.slice A3 ((digs 2 x.natAbs).length) c3))
  clear hb3 ho3 x2a x2b x2c x2d
  go_upto_region 3 with fail
  generalize (w3'.alloc (.cells #[.bool (decide (x < 0)), .slice A3 ((digs 2 x.natAbs).length) c3] 28)) = w3 at *
  generalize w3'.heap.size = g3 at *
  obtain ⟨x4a, x4b, x4c, x4d⟩ := HE3.out.cells (.tail _ (.tail _ (.head _)))
  go_wp2_with fail
  refine (lent_any na ((HSA.out _ HE3.out.b).mono HE3.out.b.size) HA.out.1 (Nat.le_trans HA.out.2 (by decide)) (Nat.le_refl _)).mono ?_
  rintro ex w5' ⟨gl5, c5, rfl, ho5, hb5⟩
  have HE5 : Hid (Ev w (w5'.alloc (.cells #[.bool na, .slice (some ⟨gl5, 0, none⟩) n_a c5] 24)) [.var 24 w5'.heap.size (.bool na) (.slice (some ⟨gl5, 0, none⟩) n_a c5), .own 48 (some ⟨gl5, 0, none⟩) (n_a + 3) c5 (u32s (la ++ [77, 77, 77])), .var 28 g3 (.bool (decide (x < 0))) (.slice A3 ((digs 2 x.natAbs).length) c3), .own 3 A3 ((digs 2 x.natAbs).length) c3 (i64s (digs 2 x.natAbs)), .var 24 w.heap.size (.bool na) (.slice Aa n_a ca)]) := Lib.hid (Ev.var (Ev.own HE3.out hb5 ho5) 24 (.bool na) (.slice (some ⟨gl5, 0, none⟩) n_a c5))
  clear hb5 ho5 x4a x4b x4c x4d
  go_upto_region 4 with fail
  generalize (w5'.alloc (.cells #[.bool na, .slice (some ⟨gl5, 0, none⟩) n_a c5] 24)) = w5 at *
  generalize w5'.heap.size = g5 at *
  obtain ⟨x6a, x6b, x6c, x6d⟩ := HE5.out.cells (.head _)
  go_wp2_with fail
  refine (tf_w (lent_sl (HE5.out.has (.tail _ (.head _))) HLA.out.1 HLA.out.2) HA.out.2 HX.out HTB.out HTC.out).mono ?_
  rintro ex w7' ⟨rfl, hb7⟩
  have HE7 : Hid (Ev w w7' [.var 24 g5 (.bool na) (.slice (some ⟨gl5, 0, none⟩) n_a c5), .own 48 (some ⟨gl5, 0, none⟩) (n_a + 3) c5 (u32s (la ++ [77, 77, 77])), .var 28 g3 (.bool (decide (x < 0))) (.slice A3 ((digs 2 x.natAbs).length) c3), .own 3 A3 ((digs 2 x.natAbs).length) c3 (i64s (digs 2 x.natAbs)), .var 24 w.heap.size (.bool na) (.slice Aa n_a ca)]) := Lib.hid (HE5.out.below hb7)
  clear hb7 x6a x6b x6c x6d
  go_upto_region 5 with fail
  obtain ⟨x8a, x8b, x8c, x8d⟩ := HE7.out.cells (.head _)
  obtain ⟨x9a, x9b, x9c, x9d⟩ := HE7.out.cells (.tail _ (.tail _ (.tail _ (.tail _ (.head _)))))
  go_wp2_with fail
  refine (held_any na (HSA.out _ HE7.out.b) ((HE7.out.2.1 _ (.tail _ (.head _))).2 _ rfl).1 ((HE7.out.2.1 _ (.tail _ (.head _))).2 _ rfl).2 (HE7.out.has (.tail _ (.head _)))).mono ?_
  rintro ex w10' ⟨rfl, hg10⟩
  have HE10 : Hid (Ev w w10' [.var 24 g5 (.bool na) (.slice (some ⟨gl5, 0, none⟩) n_a c5), .var 28 g3 (.bool (decide (x < 0))) (.slice A3 ((digs 2 x.natAbs).length) c3), .own 3 A3 ((digs 2 x.natAbs).length) c3 (i64s (digs 2 x.natAbs)), .var 24 w.heap.size (.bool na) (.slice Aa n_a ca)]) := Lib.hid (Ev.spend [.var 24 g5 (.bool na) (.slice (some ⟨gl5, 0, none⟩) n_a c5)] (.own 48 (some ⟨gl5, 0, none⟩) (n_a + 3) c5 (u32s (la ++ [77, 77, 77]))) [.var 28 g3 (.bool (decide (x < 0))) (.slice A3 ((digs 2 x.natAbs).length) c3), .own 3 A3 ((digs 2 x.natAbs).length) c3 (i64s (digs 2 x.natAbs)), .var 24 w.heap.size (.bool na) (.slice Aa n_a ca)] HE7.out hg10)
  clear hg10 x8a x8b x8c x8d x9a x9b x9c x9d
  go_upto_region 7 with fail
  obtain ⟨x11a, x11b, x11c, x11d⟩ := HE10.out.cells (.tail _ (.head _))
  go_wp2_with fail
  refine (Long_b HL.out _ _ _ _).mono ?_
  rintro ex w12' ⟨rfl, hb12⟩
  have HE12 : Hid (Ev w w12' [.var 24 g5 (.bool na) (.slice (some ⟨gl5, 0, none⟩) n_a c5), .var 28 g3 (.bool (decide (x < 0))) (.slice A3 ((digs 2 x.natAbs).length) c3), .own 3 A3 ((digs 2 x.natAbs).length) c3 (i64s (digs 2 x.natAbs)), .var 24 w.heap.size (.bool na) (.slice Aa n_a ca)]) := Lib.hid (HE10.out.below hb12)
  clear hb12 x11a x11b x11c x11d
  go_upto_region 11 with fail
  go_wp2_with fail
  refine (OfFloat_a _ HFf.out HZ.out HCf.out).mono ?_
  rintro ex w13' ⟨neg13, A13, n13, c13, l13, rfl, ho13, hg13, hb13⟩
  have HG13 := Lib.hid hg13
  clear hg13
  have HE13 : Hid (Ev w (w13'.alloc (.cells #[.bool neg13, .slice A13 n13 c13] 24)) [.var 24 w13'.heap.size (.bool neg13) (.slice A13 n13 c13), .own 48 A13 n13 c13 (u32s l13), .var 24 g5 (.bool na) (.slice (some ⟨gl5, 0, none⟩) n_a c5), .var 28 g3 (.bool (decide (x < 0))) (.slice A3 ((digs 2 x.natAbs).length) c3), .own 3 A3 ((digs 2 x.natAbs).length) c3 (i64s (digs 2 x.natAbs)), .var 24 w.heap.size (.bool na) (.slice Aa n_a ca)]) := Lib.hid (Ev.var (Ev.own HE12.out hb13 ho13) 24 (.bool neg13) (.slice A13 n13 c13))
  clear hb13 ho13 
  go_upto_region 12 with fail
  generalize (w13'.alloc (.cells #[.bool neg13, .slice A13 n13 c13] 24)) = w13 at *
  generalize w13'.heap.size = g13 at *
  go_wp2_with fail
  refine (rOfFloat_z _ HFf.out HG.out HZ.out).mono ?_
  rintro ex w14' ⟨A14, c14, rfl, hs14, hb14⟩
  have HSW : Hid (SlI (w14'.alloc (.cells #[.bool (decide (z < 0)), .slice A14 (digs 2 z.natAbs).length c14] 28)) (w14'.alloc (.cells #[.bool (decide (z < 0)), .slice A14 (digs 2 z.natAbs).length c14] 28)).heap.size A14 (digs 2 z.natAbs).length c14 (digs 2 z.natAbs)) := Lib.hid ((hs14.below (C := w14'.heap.size) ((Below.refl w14'.heap.size w14').alloc (Nat.le_refl _) _) (Nat.le_refl _)).mono (by simp))
  clear hs14
  have HE14 : Hid (Ev w (w14'.alloc (.cells #[.bool (decide (z < 0)), .slice A14 ((digs 2 z.natAbs).length) c14] 28)) [.var 28 w14'.heap.size (.bool (decide (z < 0))) (.slice A14 ((digs 2 z.natAbs).length) c14), .var 24 g13 (.bool neg13) (.slice A13 n13 c13), .own 48 A13 n13 c13 (u32s l13), .var 24 g5 (.bool na) (.slice (some ⟨gl5, 0, none⟩) n_a c5), .var 28 g3 (.bool (decide (x < 0))) (.slice A3 ((digs 2 x.natAbs).length) c3), .own 3 A3 ((digs 2 x.natAbs).length) c3 (i64s (digs 2 x.natAbs)), .var 24 w.heap.size (.bool na) (.slice Aa n_a ca)]) := Lib.hid (Ev.var (Ev.below HE13.out hb14) 28 (.bool (decide (z < 0))) (.slice A14 ((digs 2 z.natAbs).length) c14))
  clear hb14 
  go_upto_region 15 with fail
  generalize (w14'.alloc (.cells #[.bool (decide (z < 0)), .slice A14 ((digs 2 z.natAbs).length) c14] 28)) = w14 at *
  generalize w14'.heap.size = g14 at *
  obtain ⟨x15a, x15b, x15c, x15d⟩ := HE14.out.cells (.tail _ (.head _))
  obtain ⟨x16a, x16b, x16c, x16d⟩ := HE14.out.cells (.head _)
  go_wp2_with fail
  refine (is_w (HE14.out.has (.tail _ (.tail _ (.head _)))) HE14.out.b.size HG13.out HSW.out (Nat.le_refl _) HCo.out).mono ?_
  rintro ex w17' ⟨rfl, hg17⟩
  have HE17 : Hid (Ev w w17' [.var 28 g14 (.bool (decide (z < 0))) (.slice A14 ((digs 2 z.natAbs).length) c14), .var 24 g13 (.bool neg13) (.slice A13 n13 c13), .var 24 g5 (.bool na) (.slice (some ⟨gl5, 0, none⟩) n_a c5), .var 28 g3 (.bool (decide (x < 0))) (.slice A3 ((digs 2 x.natAbs).length) c3), .own 3 A3 ((digs 2 x.natAbs).length) c3 (i64s (digs 2 x.natAbs)), .var 24 w.heap.size (.bool na) (.slice Aa n_a ca)]) := Lib.hid (Ev.spend [.var 28 g14 (.bool (decide (z < 0))) (.slice A14 ((digs 2 z.natAbs).length) c14), .var 24 g13 (.bool neg13) (.slice A13 n13 c13)] (.own 48 A13 n13 c13 (u32s l13)) [.var 24 g5 (.bool na) (.slice (some ⟨gl5, 0, none⟩) n_a c5), .var 28 g3 (.bool (decide (x < 0))) (.slice A3 ((digs 2 x.natAbs).length) c3), .own 3 A3 ((digs 2 x.natAbs).length) c3 (i64s (digs 2 x.natAbs)), .var 24 w.heap.size (.bool na) (.slice Aa n_a ca)] HE14.out hg17)
  clear hg17 x15a x15b x15c x15d x16a x16b x16c x16d
  go_upto_region 16 with fail
  go_wp2
  go_ret
  exact ⟨by first | rfl | simp, HE17.out.b⟩
set_option maxRecDepth 100000 in
set_option maxHeartbeats 16000000 in
theorem Floats_long_bad (na : Bool) {Aa : Option Addr} {la : List Nat} {n_a ca : Nat} {w : World} (hsa : SlU w w.heap.size Aa n_a ca la) (hAa : Aa = none → ca = 0) (hna : n_a ≤ 1048576) (f : Nat) (hf : f < 18446744073709551616)
    {x : Int} (hx : ival na la = x) (hl : tooLong x = true) (hg : f / 4503599627370496 % 2048 = 2047) :
    Calls Try.prog 14 #[.agg #[.bool na, .slice Aa n_a ca], .int .u64 (f : Int)] w fun e w' => e = .returned (.bool true) ∧ Below w.heap.size w w' := by
  have HX := Lib.hid hx
  have HL := Lib.hid hl
  have HFf := Lib.hid hf
  have HG := Lib.hid hg
  obtain ⟨z, hz⟩ : ∃ z, ofZ f = z := ⟨_, rfl⟩
  have HZ := Lib.hid hz
  have HCf := Lib.hid (show ofC f = 14 by rw [ofC, if_pos hg])
  have HTB := Lib.hid (show tfB x = 0 by rw [tfB, hl, if_pos rfl])
  have HTC := Lib.hid (show tfC x = 10 by rw [tfC, hl, if_pos rfl])
  have HNX := Lib.hid (bits_le hsa hna hx)
  have HA := Lib.hid (And.intro hAa hna)
  have HSA := Lib.hid (fun w1 (hb : Below w.heap.size w w1) => hsa.below hb (Nat.le_refl _))
  have HLA := Lib.hid (And.intro hsa.len hsa.dig)
  have he0 := (Ev.var (Ev.nil w) 24 (.bool na) (.slice Aa n_a ca))
  try simp only [World.size_alloc] at he0
  have HE0 : Hid (Ev w (w.alloc (.cells #[.bool na, .slice Aa n_a ca] 24)) [.var 24 w.heap.size (.bool na) (.slice Aa n_a ca)]) := Lib.hid he0
  clear he0
  clear hsa hAa hna hx hl hz hf hg
  go_enter Try.func14, Try.ntmps14
  go_upto_region 1 with fail
  generalize (w.alloc (.cells #[.bool na, .slice Aa n_a ca] 24)) = w1 at *
  go_wp2_with fail
  refine (awake_any _).mono ?_
  rintro ex w1' ⟨rfl, hb1⟩
  have HE1 : Hid (Ev w w1' [.var 24 w.heap.size (.bool na) (.slice Aa n_a ca)]) := Lib.hid (HE0.out.below hb1)
  clear hb1 
  go_upto_region 2 with fail
  obtain ⟨x2a, x2b, x2c, x2d⟩ := HE1.out.cells (.head _)
  go_wp2_with fail
  refine (Of_w ((HSA.out _ HE1.out.b).mono HE1.out.b.size) HA.out.2 HX.out).mono ?_
  rintro ex w3' ⟨v, rfl, ⟨A3, c3, rfl, ho3⟩, hb3⟩
  have HE3 : Hid (Ev w (w3'.alloc (.cells #[.bool (decide (x < 0)), .slice A3 ((digs 2 x.natAbs).length) c3] 28)) [.var 28 w3'.heap.size (.bool (decide (x < 0))) (.slice A3 ((digs 2 x.natAbs).length) c3), .own 3 A3 ((digs 2 x.natAbs).length) c3 (i64s (digs 2 x.natAbs)), .var 24 w.heap.size (.bool na) (.slice Aa n_a ca)]) := Lib.hid (Ev.var (Ev.own HE1.out hb3 ho3) 28 (.bool (decide (x < 0))) (.slice A3 ((digs 2 x.natAbs).length) c3))
  clear hb3 ho3 x2a x2b x2c x2d
  go_upto_region 3 with fail
  generalize (w3'.alloc (.cells #[.bool (decide (x < 0)), .slice A3 ((digs 2 x.natAbs).length) c3] 28)) = w3 at *
  generalize w3'.heap.size = g3 at *
  obtain ⟨x4a, x4b, x4c, x4d⟩ := HE3.out.cells (.tail _ (.tail _ (.head _)))
  go_wp2_with fail
  refine (lent_any na ((HSA.out _ HE3.out.b).mono HE3.out.b.size) HA.out.1 (Nat.le_trans HA.out.2 (by decide)) (Nat.le_refl _)).mono ?_
  rintro ex w5' ⟨gl5, c5, rfl, ho5, hb5⟩
  have HE5 : Hid (Ev w (w5'.alloc (.cells #[.bool na, .slice (some ⟨gl5, 0, none⟩) n_a c5] 24)) [.var 24 w5'.heap.size (.bool na) (.slice (some ⟨gl5, 0, none⟩) n_a c5), .own 48 (some ⟨gl5, 0, none⟩) (n_a + 3) c5 (u32s (la ++ [77, 77, 77])), .var 28 g3 (.bool (decide (x < 0))) (.slice A3 ((digs 2 x.natAbs).length) c3), .own 3 A3 ((digs 2 x.natAbs).length) c3 (i64s (digs 2 x.natAbs)), .var 24 w.heap.size (.bool na) (.slice Aa n_a ca)]) := Lib.hid (Ev.var (Ev.own HE3.out hb5 ho5) 24 (.bool na) (.slice (some ⟨gl5, 0, none⟩) n_a c5))
  clear hb5 ho5 x4a x4b x4c x4d
  go_upto_region 4 with fail
  generalize (w5'.alloc (.cells #[.bool na, .slice (some ⟨gl5, 0, none⟩) n_a c5] 24)) = w5 at *
  generalize w5'.heap.size = g5 at *
  obtain ⟨x6a, x6b, x6c, x6d⟩ := HE5.out.cells (.head _)
  go_wp2_with fail
  refine (tf_w (lent_sl (HE5.out.has (.tail _ (.head _))) HLA.out.1 HLA.out.2) HA.out.2 HX.out HTB.out HTC.out).mono ?_
  rintro ex w7' ⟨rfl, hb7⟩
  have HE7 : Hid (Ev w w7' [.var 24 g5 (.bool na) (.slice (some ⟨gl5, 0, none⟩) n_a c5), .own 48 (some ⟨gl5, 0, none⟩) (n_a + 3) c5 (u32s (la ++ [77, 77, 77])), .var 28 g3 (.bool (decide (x < 0))) (.slice A3 ((digs 2 x.natAbs).length) c3), .own 3 A3 ((digs 2 x.natAbs).length) c3 (i64s (digs 2 x.natAbs)), .var 24 w.heap.size (.bool na) (.slice Aa n_a ca)]) := Lib.hid (HE5.out.below hb7)
  clear hb7 x6a x6b x6c x6d
  go_upto_region 5 with fail
  obtain ⟨x8a, x8b, x8c, x8d⟩ := HE7.out.cells (.head _)
  obtain ⟨x9a, x9b, x9c, x9d⟩ := HE7.out.cells (.tail _ (.tail _ (.tail _ (.tail _ (.head _)))))
  go_wp2_with fail
  refine (held_any na (HSA.out _ HE7.out.b) ((HE7.out.2.1 _ (.tail _ (.head _))).2 _ rfl).1 ((HE7.out.2.1 _ (.tail _ (.head _))).2 _ rfl).2 (HE7.out.has (.tail _ (.head _)))).mono ?_
  rintro ex w10' ⟨rfl, hg10⟩
  have HE10 : Hid (Ev w w10' [.var 24 g5 (.bool na) (.slice (some ⟨gl5, 0, none⟩) n_a c5), .var 28 g3 (.bool (decide (x < 0))) (.slice A3 ((digs 2 x.natAbs).length) c3), .own 3 A3 ((digs 2 x.natAbs).length) c3 (i64s (digs 2 x.natAbs)), .var 24 w.heap.size (.bool na) (.slice Aa n_a ca)]) := Lib.hid (Ev.spend [.var 24 g5 (.bool na) (.slice (some ⟨gl5, 0, none⟩) n_a c5)] (.own 48 (some ⟨gl5, 0, none⟩) (n_a + 3) c5 (u32s (la ++ [77, 77, 77]))) [.var 28 g3 (.bool (decide (x < 0))) (.slice A3 ((digs 2 x.natAbs).length) c3), .own 3 A3 ((digs 2 x.natAbs).length) c3 (i64s (digs 2 x.natAbs)), .var 24 w.heap.size (.bool na) (.slice Aa n_a ca)] HE7.out hg10)
  clear hg10 x8a x8b x8c x8d x9a x9b x9c x9d
  go_upto_region 7 with fail
  obtain ⟨x11a, x11b, x11c, x11d⟩ := HE10.out.cells (.tail _ (.head _))
  go_wp2_with fail
  refine (Long_b HL.out _ _ _ _).mono ?_
  rintro ex w12' ⟨rfl, hb12⟩
  have HE12 : Hid (Ev w w12' [.var 24 g5 (.bool na) (.slice (some ⟨gl5, 0, none⟩) n_a c5), .var 28 g3 (.bool (decide (x < 0))) (.slice A3 ((digs 2 x.natAbs).length) c3), .own 3 A3 ((digs 2 x.natAbs).length) c3 (i64s (digs 2 x.natAbs)), .var 24 w.heap.size (.bool na) (.slice Aa n_a ca)]) := Lib.hid (HE10.out.below hb12)
  clear hb12 x11a x11b x11c x11d
  go_upto_region 11 with fail
  go_wp2_with fail
  refine (OfFloat_a _ HFf.out HZ.out HCf.out).mono ?_
  rintro ex w13' ⟨neg13, A13, n13, c13, l13, rfl, ho13, hg13, hb13⟩
  have HG13 := Lib.hid hg13
  clear hg13
  have HE13 : Hid (Ev w (w13'.alloc (.cells #[.bool neg13, .slice A13 n13 c13] 24)) [.var 24 w13'.heap.size (.bool neg13) (.slice A13 n13 c13), .own 48 A13 n13 c13 (u32s l13), .var 24 g5 (.bool na) (.slice (some ⟨gl5, 0, none⟩) n_a c5), .var 28 g3 (.bool (decide (x < 0))) (.slice A3 ((digs 2 x.natAbs).length) c3), .own 3 A3 ((digs 2 x.natAbs).length) c3 (i64s (digs 2 x.natAbs)), .var 24 w.heap.size (.bool na) (.slice Aa n_a ca)]) := Lib.hid (Ev.var (Ev.own HE12.out hb13 ho13) 24 (.bool neg13) (.slice A13 n13 c13))
  clear hb13 ho13 
  go_upto_region 12 with fail
  generalize (w13'.alloc (.cells #[.bool neg13, .slice A13 n13 c13] 24)) = w13 at *
  generalize w13'.heap.size = g13 at *
  go_wp2_with fail
  refine (rOfFloat_no _ HFf.out HG.out).mono ?_
  rintro ex w14' ⟨rfl, hb14⟩
  have HE14 : Hid (Ev w (w14'.alloc (.cells #[.bool false, .slice none 0 0] 28)) [.var 28 w14'.heap.size (.bool false) (.slice none 0 0), .var 24 g13 (.bool neg13) (.slice A13 n13 c13), .own 48 A13 n13 c13 (u32s l13), .var 24 g5 (.bool na) (.slice (some ⟨gl5, 0, none⟩) n_a c5), .var 28 g3 (.bool (decide (x < 0))) (.slice A3 ((digs 2 x.natAbs).length) c3), .own 3 A3 ((digs 2 x.natAbs).length) c3 (i64s (digs 2 x.natAbs)), .var 24 w.heap.size (.bool na) (.slice Aa n_a ca)]) := Lib.hid (Ev.var (Ev.below HE13.out hb14) 28 (.bool false) (.slice none 0 0))
  clear hb14 
  go_upto_region 14 with fail
  generalize (w14'.alloc (.cells #[.bool false, .slice none 0 0] 28)) = w14 at *
  generalize w14'.heap.size = g14 at *
  obtain ⟨rfl, rfl⟩ := HG13.out.2 (by decide)
  obtain ⟨x15a, x15b, x15c, x15d⟩ := HE14.out.cells (.tail _ (.head _))
  go_wp2
  go_ret
  exact ⟨by first | rfl | simp, HE14.out.b⟩
set_option maxRecDepth 100000 in
set_option maxHeartbeats 16000000 in
theorem Floats_inf_good (na : Bool) {Aa : Option Addr} {la : List Nat} {n_a ca : Nat} {w : World} (hsa : SlU w w.heap.size Aa n_a ca la) (hAa : Aa = none → ca = 0) (hna : n_a ≤ 1048576) (f : Nat) (hf : f < 18446744073709551616)
    {x : Int} (hx : ival na la = x) (hl : tooLong x = false) (hi : flInf x.natAbs = true) (hg : f / 4503599627370496 % 2048 ≠ 2047) :
    Calls Try.prog 14 #[.agg #[.bool na, .slice Aa n_a ca], .int .u64 (f : Int)] w fun e w' => e = .returned (.bool true) ∧ Below w.heap.size w w' := by
  have HX := Lib.hid hx
  have HL := Lib.hid hl
  have HFf := Lib.hid hf
  have HG := Lib.hid hg
  obtain ⟨z, hz⟩ : ∃ z, ofZ f = z := ⟨_, rfl⟩
  have HZ := Lib.hid hz
  have HCf := Lib.hid (show ofC f = 0 by rw [ofC, if_neg hg])
  have HCo := Lib.hid (show (0 : Int) = codeOf 0 z by rw [codeOf, if_pos rfl, ← hz, ofZ_short hg]; rfl)
  have HRF := Lib.hid (show rfP x = 0 by rw [rfP, hi]; simp)
  have HTB := Lib.hid (show tfB x = 0 by rw [rfP_tfB hl, HRF.out])
  have HTC := Lib.hid (show tfC x = 14 by rw [tfC, hl, hi]; rfl)
  have HRO := Lib.hid (show (!flInf x.natAbs) = false by rw [hi]; rfl)
  have HNX := Lib.hid (bits_le hsa hna hx)
  have HA := Lib.hid (And.intro hAa hna)
  have HSA := Lib.hid (fun w1 (hb : Below w.heap.size w w1) => hsa.below hb (Nat.le_refl _))
  have HLA := Lib.hid (And.intro hsa.len hsa.dig)
  have he0 := (Ev.var (Ev.nil w) 24 (.bool na) (.slice Aa n_a ca))
  try simp only [World.size_alloc] at he0
  have HE0 : Hid (Ev w (w.alloc (.cells #[.bool na, .slice Aa n_a ca] 24)) [.var 24 w.heap.size (.bool na) (.slice Aa n_a ca)]) := Lib.hid he0
  clear he0
  clear hsa hAa hna hx hl hz hf hg hi
  go_enter Try.func14, Try.ntmps14
  go_upto_region 1 with fail
  generalize (w.alloc (.cells #[.bool na, .slice Aa n_a ca] 24)) = w1 at *
  go_wp2_with fail
  refine (awake_any _).mono ?_
  rintro ex w1' ⟨rfl, hb1⟩
  have HE1 : Hid (Ev w w1' [.var 24 w.heap.size (.bool na) (.slice Aa n_a ca)]) := Lib.hid (HE0.out.below hb1)
  clear hb1 
  go_upto_region 2 with fail
  obtain ⟨x2a, x2b, x2c, x2d⟩ := HE1.out.cells (.head _)
  go_wp2_with fail
  refine (Of_w ((HSA.out _ HE1.out.b).mono HE1.out.b.size) HA.out.2 HX.out).mono ?_
  rintro ex w3' ⟨v, rfl, ⟨A3, c3, rfl, ho3⟩, hb3⟩
  have HE3 : Hid (Ev w (w3'.alloc (.cells #[.bool (decide (x < 0)), .slice A3 ((digs 2 x.natAbs).length) c3] 28)) [.var 28 w3'.heap.size (.bool (decide (x < 0))) (.slice A3 ((digs 2 x.natAbs).length) c3), .own 3 A3 ((digs 2 x.natAbs).length) c3 (i64s (digs 2 x.natAbs)), .var 24 w.heap.size (.bool na) (.slice Aa n_a ca)]) := Lib.hid (Ev.var (Ev.own HE1.out hb3 ho3) 28 (.bool (decide (x < 0))) (.slice A3 ((digs 2 x.natAbs).length) c3))
  clear hb3 ho3 x2a x2b x2c x2d
  go_upto_region 3 with fail
  generalize (w3'.alloc (.cells #[.bool (decide (x < 0)), .slice A3 ((digs 2 x.natAbs).length) c3] 28)) = w3 at *
  generalize w3'.heap.size = g3 at *
  obtain ⟨x4a, x4b, x4c, x4d⟩ := HE3.out.cells (.tail _ (.tail _ (.head _)))
  go_wp2_with fail
  refine (lent_any na ((HSA.out _ HE3.out.b).mono HE3.out.b.size) HA.out.1 (Nat.le_trans HA.out.2 (by decide)) (Nat.le_refl _)).mono ?_
  rintro ex w5' ⟨gl5, c5, rfl, ho5, hb5⟩
  have HE5 : Hid (Ev w (w5'.alloc (.cells #[.bool na, .slice (some ⟨gl5, 0, none⟩) n_a c5] 24)) [.var 24 w5'.heap.size (.bool na) (.slice (some ⟨gl5, 0, none⟩) n_a c5), .own 48 (some ⟨gl5, 0, none⟩) (n_a + 3) c5 (u32s (la ++ [77, 77, 77])), .var 28 g3 (.bool (decide (x < 0))) (.slice A3 ((digs 2 x.natAbs).length) c3), .own 3 A3 ((digs 2 x.natAbs).length) c3 (i64s (digs 2 x.natAbs)), .var 24 w.heap.size (.bool na) (.slice Aa n_a ca)]) := Lib.hid (Ev.var (Ev.own HE3.out hb5 ho5) 24 (.bool na) (.slice (some ⟨gl5, 0, none⟩) n_a c5))
  clear hb5 ho5 x4a x4b x4c x4d
  go_upto_region 4 with fail
  generalize (w5'.alloc (.cells #[.bool na, .slice (some ⟨gl5, 0, none⟩) n_a c5] 24)) = w5 at *
  generalize w5'.heap.size = g5 at *
  obtain ⟨x6a, x6b, x6c, x6d⟩ := HE5.out.cells (.head _)
  go_wp2_with fail
  refine (tf_w (lent_sl (HE5.out.has (.tail _ (.head _))) HLA.out.1 HLA.out.2) HA.out.2 HX.out HTB.out HTC.out).mono ?_
  rintro ex w7' ⟨rfl, hb7⟩
  have HE7 : Hid (Ev w w7' [.var 24 g5 (.bool na) (.slice (some ⟨gl5, 0, none⟩) n_a c5), .own 48 (some ⟨gl5, 0, none⟩) (n_a + 3) c5 (u32s (la ++ [77, 77, 77])), .var 28 g3 (.bool (decide (x < 0))) (.slice A3 ((digs 2 x.natAbs).length) c3), .own 3 A3 ((digs 2 x.natAbs).length) c3 (i64s (digs 2 x.natAbs)), .var 24 w.heap.size (.bool na) (.slice Aa n_a ca)]) := Lib.hid (HE5.out.below hb7)
  clear hb7 x6a x6b x6c x6d
  go_upto_region 5 with fail
  obtain ⟨x8a, x8b, x8c, x8d⟩ := HE7.out.cells (.head _)
  obtain ⟨x9a, x9b, x9c, x9d⟩ := HE7.out.cells (.tail _ (.tail _ (.tail _ (.tail _ (.head _)))))
  go_wp2_with fail
  refine (held_any na (HSA.out _ HE7.out.b) ((HE7.out.2.1 _ (.tail _ (.head _))).2 _ rfl).1 ((HE7.out.2.1 _ (.tail _ (.head _))).2 _ rfl).2 (HE7.out.has (.tail _ (.head _)))).mono ?_
  rintro ex w10' ⟨rfl, hg10⟩
  have HE10 : Hid (Ev w w10' [.var 24 g5 (.bool na) (.slice (some ⟨gl5, 0, none⟩) n_a c5), .var 28 g3 (.bool (decide (x < 0))) (.slice A3 ((digs 2 x.natAbs).length) c3), .own 3 A3 ((digs 2 x.natAbs).length) c3 (i64s (digs 2 x.natAbs)), .var 24 w.heap.size (.bool na) (.slice Aa n_a ca)]) := Lib.hid (Ev.spend [.var 24 g5 (.bool na) (.slice (some ⟨gl5, 0, none⟩) n_a c5)] (.own 48 (some ⟨gl5, 0, none⟩) (n_a + 3) c5 (u32s (la ++ [77, 77, 77]))) [.var 28 g3 (.bool (decide (x < 0))) (.slice A3 ((digs 2 x.natAbs).length) c3), .own 3 A3 ((digs 2 x.natAbs).length) c3 (i64s (digs 2 x.natAbs)), .var 24 w.heap.size (.bool na) (.slice Aa n_a ca)] HE7.out hg10)
  clear hg10 x8a x8b x8c x8d x9a x9b x9c x9d
  go_upto_region 7 with fail
  obtain ⟨x11a, x11b, x11c, x11d⟩ := HE10.out.cells (.tail _ (.head _))
  go_wp2_with fail
  refine (Long_b HL.out _ _ _ _).mono ?_
  rintro ex w12' ⟨rfl, hb12⟩
  have HE12 : Hid (Ev w w12' [.var 24 g5 (.bool na) (.slice (some ⟨gl5, 0, none⟩) n_a c5), .var 28 g3 (.bool (decide (x < 0))) (.slice A3 ((digs 2 x.natAbs).length) c3), .own 3 A3 ((digs 2 x.natAbs).length) c3 (i64s (digs 2 x.natAbs)), .var 24 w.heap.size (.bool na) (.slice Aa n_a ca)]) := Lib.hid (HE10.out.below hb12)
  clear hb12 x11a x11b x11c x11d
  go_upto_region 9 with fail
  obtain ⟨x13a, x13b, x13c, x13d⟩ := HE12.out.cells (.tail _ (.head _))
  go_wp2_with fail
  refine (rFloat_any (bits_sl (HE12.out.has (.tail _ (.tail _ (.head _))))) (Nat.le_refl _) (Nat.le_trans HNX.out (by decide)) HRF.out HRO.out).mono ?_
  rintro ex w14' ⟨rfl, hb14⟩
  have HE14 : Hid (Ev w w14' [.var 24 g5 (.bool na) (.slice (some ⟨gl5, 0, none⟩) n_a c5), .var 28 g3 (.bool (decide (x < 0))) (.slice A3 ((digs 2 x.natAbs).length) c3), .own 3 A3 ((digs 2 x.natAbs).length) c3 (i64s (digs 2 x.natAbs)), .var 24 w.heap.size (.bool na) (.slice Aa n_a ca)]) := Lib.hid (HE12.out.below hb14)
  clear hb14 x13a x13b x13c x13d
  go_upto_region 11 with fail
  go_wp2_with fail
  refine (OfFloat_a _ HFf.out HZ.out HCf.out).mono ?_
  rintro ex w15' ⟨neg15, A15, n15, c15, l15, rfl, ho15, hg15, hb15⟩
  have HG15 := Lib.hid hg15
  clear hg15
  have HE15 : Hid (Ev w (w15'.alloc (.cells #[.bool neg15, .slice A15 n15 c15] 24)) [.var 24 w15'.heap.size (.bool neg15) (.slice A15 n15 c15), .own 48 A15 n15 c15 (u32s l15), .var 24 g5 (.bool na) (.slice (some ⟨gl5, 0, none⟩) n_a c5), .var 28 g3 (.bool (decide (x < 0))) (.slice A3 ((digs 2 x.natAbs).length) c3), .own 3 A3 ((digs 2 x.natAbs).length) c3 (i64s (digs 2 x.natAbs)), .var 24 w.heap.size (.bool na) (.slice Aa n_a ca)]) := Lib.hid (Ev.var (Ev.own HE14.out hb15 ho15) 24 (.bool neg15) (.slice A15 n15 c15))
  clear hb15 ho15 
  go_upto_region 12 with fail
  generalize (w15'.alloc (.cells #[.bool neg15, .slice A15 n15 c15] 24)) = w15 at *
  generalize w15'.heap.size = g15 at *
  go_wp2_with fail
  refine (rOfFloat_z _ HFf.out HG.out HZ.out).mono ?_
  rintro ex w16' ⟨A16, c16, rfl, hs16, hb16⟩
  have HSW : Hid (SlI (w16'.alloc (.cells #[.bool (decide (z < 0)), .slice A16 (digs 2 z.natAbs).length c16] 28)) (w16'.alloc (.cells #[.bool (decide (z < 0)), .slice A16 (digs 2 z.natAbs).length c16] 28)).heap.size A16 (digs 2 z.natAbs).length c16 (digs 2 z.natAbs)) := Lib.hid ((hs16.below (C := w16'.heap.size) ((Below.refl w16'.heap.size w16').alloc (Nat.le_refl _) _) (Nat.le_refl _)).mono (by simp))
  clear hs16
  have HE16 : Hid (Ev w (w16'.alloc (.cells #[.bool (decide (z < 0)), .slice A16 ((digs 2 z.natAbs).length) c16] 28)) [.var 28 w16'.heap.size (.bool (decide (z < 0))) (.slice A16 ((digs 2 z.natAbs).length) c16), .var 24 g15 (.bool neg15) (.slice A15 n15 c15), .own 48 A15 n15 c15 (u32s l15), .var 24 g5 (.bool na) (.slice (some ⟨gl5, 0, none⟩) n_a c5), .var 28 g3 (.bool (decide (x < 0))) (.slice A3 ((digs 2 x.natAbs).length) c3), .own 3 A3 ((digs 2 x.natAbs).length) c3 (i64s (digs 2 x.natAbs)), .var 24 w.heap.size (.bool na) (.slice Aa n_a ca)]) := Lib.hid (Ev.var (Ev.below HE15.out hb16) 28 (.bool (decide (z < 0))) (.slice A16 ((digs 2 z.natAbs).length) c16))
  clear hb16 
  go_upto_region 15 with fail
  generalize (w16'.alloc (.cells #[.bool (decide (z < 0)), .slice A16 ((digs 2 z.natAbs).length) c16] 28)) = w16 at *
  generalize w16'.heap.size = g16 at *
  obtain ⟨x17a, x17b, x17c, x17d⟩ := HE16.out.cells (.tail _ (.head _))
  obtain ⟨x18a, x18b, x18c, x18d⟩ := HE16.out.cells (.head _)
  go_wp2_with fail
  refine (is_w (HE16.out.has (.tail _ (.tail _ (.head _)))) HE16.out.b.size HG15.out HSW.out (Nat.le_refl _) HCo.out).mono ?_
  rintro ex w19' ⟨rfl, hg19⟩
  have HE19 : Hid (Ev w w19' [.var 28 g16 (.bool (decide (z < 0))) (.slice A16 ((digs 2 z.natAbs).length) c16), .var 24 g15 (.bool neg15) (.slice A15 n15 c15), .var 24 g5 (.bool na) (.slice (some ⟨gl5, 0, none⟩) n_a c5), .var 28 g3 (.bool (decide (x < 0))) (.slice A3 ((digs 2 x.natAbs).length) c3), .own 3 A3 ((digs 2 x.natAbs).length) c3 (i64s (digs 2 x.natAbs)), .var 24 w.heap.size (.bool na) (.slice Aa n_a ca)]) := Lib.hid (Ev.spend [.var 28 g16 (.bool (decide (z < 0))) (.slice A16 ((digs 2 z.natAbs).length) c16), .var 24 g15 (.bool neg15) (.slice A15 n15 c15)] (.own 48 A15 n15 c15 (u32s l15)) [.var 24 g5 (.bool na) (.slice (some ⟨gl5, 0, none⟩) n_a c5), .var 28 g3 (.bool (decide (x < 0))) (.slice A3 ((digs 2 x.natAbs).length) c3), .own 3 A3 ((digs 2 x.natAbs).length) c3 (i64s (digs 2 x.natAbs)), .var 24 w.heap.size (.bool na) (.slice Aa n_a ca)] HE16.out hg19)
  clear hg19 x17a x17b x17c x17d x18a x18b x18c x18d
  go_upto_region 16 with fail
  go_wp2
  go_ret
  exact ⟨by first | rfl | simp, HE19.out.b⟩
set_option maxRecDepth 100000 in
set_option maxHeartbeats 16000000 in
theorem Floats_inf_bad (na : Bool) {Aa : Option Addr} {la : List Nat} {n_a ca : Nat} {w : World} (hsa : SlU w w.heap.size Aa n_a ca la) (hAa : Aa = none → ca = 0) (hna : n_a ≤ 1048576) (f : Nat) (hf : f < 18446744073709551616)
    {x : Int} (hx : ival na la = x) (hl : tooLong x = false) (hi : flInf x.natAbs = true) (hg : f / 4503599627370496 % 2048 = 2047) :
    Calls Try.prog 14 #[.agg #[.bool na, .slice Aa n_a ca], .int .u64 (f : Int)] w fun e w' => e = .returned (.bool true) ∧ Below w.heap.size w w' := by
  have HX := Lib.hid hx
  have HL := Lib.hid hl
  have HFf := Lib.hid hf
  have HG := Lib.hid hg
  obtain ⟨z, hz⟩ : ∃ z, ofZ f = z := ⟨_, rfl⟩
  have HZ := Lib.hid hz
  have HCf := Lib.hid (show ofC f = 14 by rw [ofC, if_pos hg])
  have HRF := Lib.hid (show rfP x = 0 by rw [rfP, hi]; simp)
  have HTB := Lib.hid (show tfB x = 0 by rw [rfP_tfB hl, HRF.out])
  have HTC := Lib.hid (show tfC x = 14 by rw [tfC, hl, hi]; rfl)
  have HRO := Lib.hid (show (!flInf x.natAbs) = false by rw [hi]; rfl)
  have HNX := Lib.hid (bits_le hsa hna hx)
  have HA := Lib.hid (And.intro hAa hna)
  have HSA := Lib.hid (fun w1 (hb : Below w.heap.size w w1) => hsa.below hb (Nat.le_refl _))
  have HLA := Lib.hid (And.intro hsa.len hsa.dig)
  have he0 := (Ev.var (Ev.nil w) 24 (.bool na) (.slice Aa n_a ca))
  try simp only [World.size_alloc] at he0
  have HE0 : Hid (Ev w (w.alloc (.cells #[.bool na, .slice Aa n_a ca] 24)) [.var 24 w.heap.size (.bool na) (.slice Aa n_a ca)]) := Lib.hid he0
  clear he0
  clear hsa hAa hna hx hl hz hf hg hi
  go_enter Try.func14, Try.ntmps14
  go_upto_region 1 with fail
  generalize (w.alloc (.cells #[.bool na, .slice Aa n_a ca] 24)) = w1 at *
  go_wp2_with fail
  refine (awake_any _).mono ?_
  rintro ex w1' ⟨rfl, hb1⟩
  have HE1 : Hid (Ev w w1' [.var 24 w.heap.size (.bool na) (.slice Aa n_a ca)]) := Lib.hid (HE0.out.below hb1)
  clear hb1 
  go_upto_region 2 with fail
  obtain ⟨x2a, x2b, x2c, x2d⟩ := HE1.out.cells (.head _)
  go_wp2_with fail
  refine (Of_w ((HSA.out _ HE1.out.b).mono HE1.out.b.size) HA.out.2 HX.out).mono ?_
  rintro ex w3' ⟨v, rfl, ⟨A3, c3, rfl, ho3⟩, hb3⟩
  have HE3 : Hid (Ev w (w3'.alloc (.cells #[.bool (decide (x < 0)), .slice A3 ((digs 2 x.natAbs).length) c3] 28)) [.var 28 w3'.heap.size (.bool (decide (x < 0))) (.slice A3 ((digs 2 x.natAbs).length) c3), .own 3 A3 ((digs 2 x.natAbs).length) c3 (i64s (digs 2 x.natAbs)), .var 24 w.heap.size (.bool na) (.slice Aa n_a ca)]) := Lib.hid (Ev.var (Ev.own HE1.out hb3 ho3) 28 (.bool (decide (x < 0))) (.slice A3 ((digs 2 x.natAbs).length) c3))
  clear hb3 ho3 x2a x2b x2c x2d
  go_upto_region 3 with fail
  generalize (w3'.alloc (.cells #[.bool (decide (x < 0)), .slice A3 ((digs 2 x.natAbs).length) c3] 28)) = w3 at *
  generalize w3'.heap.size = g3 at *
  obtain ⟨x4a, x4b, x4c, x4d⟩ := HE3.out.cells (.tail _ (.tail _ (.head _)))
  go_wp2_with fail
  refine (lent_any na ((HSA.out _ HE3.out.b).mono HE3.out.b.size) HA.out.1 (Nat.le_trans HA.out.2 (by decide)) (Nat.le_refl _)).mono ?_
  rintro ex w5' ⟨gl5, c5, rfl, ho5, hb5⟩
  have HE5 : Hid (Ev w (w5'.alloc (.cells #[.bool na, .slice (some ⟨gl5, 0, none⟩) n_a c5] 24)) [.var 24 w5'.heap.size (.bool na) (.slice (some ⟨gl5, 0, none⟩) n_a c5), .own 48 (some ⟨gl5, 0, none⟩) (n_a + 3) c5 (u32s (la ++ [77, 77, 77])), .var 28 g3 (.bool (decide (x < 0))) (.slice A3 ((digs 2 x.natAbs).length) c3), .own 3 A3 ((digs 2 x.natAbs).length) c3 (i64s (digs 2 x.natAbs)), .var 24 w.heap.size (.bool na) (.slice Aa n_a ca)]) := Lib.hid (Ev.var (Ev.own HE3.out hb5 ho5) 24 (.bool na) (.slice (some ⟨gl5, 0, none⟩) n_a c5))
  clear hb5 ho5 x4a x4b x4c x4d
  go_upto_region 4 with fail
  generalize (w5'.alloc (.cells #[.bool na, .slice (some ⟨gl5, 0, none⟩) n_a c5] 24)) = w5 at *
  generalize w5'.heap.size = g5 at *
  obtain ⟨x6a, x6b, x6c, x6d⟩ := HE5.out.cells (.head _)
  go_wp2_with fail
  refine (tf_w (lent_sl (HE5.out.has (.tail _ (.head _))) HLA.out.1 HLA.out.2) HA.out.2 HX.out HTB.out HTC.out).mono ?_
  rintro ex w7' ⟨rfl, hb7⟩
  have HE7 : Hid (Ev w w7' [.var 24 g5 (.bool na) (.slice (some ⟨gl5, 0, none⟩) n_a c5), .own 48 (some ⟨gl5, 0, none⟩) (n_a + 3) c5 (u32s (la ++ [77, 77, 77])), .var 28 g3 (.bool (decide (x < 0))) (.slice A3 ((digs 2 x.natAbs).length) c3), .own 3 A3 ((digs 2 x.natAbs).length) c3 (i64s (digs 2 x.natAbs)), .var 24 w.heap.size (.bool na) (.slice Aa n_a ca)]) := Lib.hid (HE5.out.below hb7)
  clear hb7 x6a x6b x6c x6d
  go_upto_region 5 with fail
  obtain ⟨x8a, x8b, x8c, x8d⟩ := HE7.out.cells (.head _)
  obtain ⟨x9a, x9b, x9c, x9d⟩ := HE7.out.cells (.tail _ (.tail _ (.tail _ (.tail _ (.head _)))))
  go_wp2_with fail
  refine (held_any na (HSA.out _ HE7.out.b) ((HE7.out.2.1 _ (.tail _ (.head _))).2 _ rfl).1 ((HE7.out.2.1 _ (.tail _ (.head _))).2 _ rfl).2 (HE7.out.has (.tail _ (.head _)))).mono ?_
  rintro ex w10' ⟨rfl, hg10⟩
  have HE10 : Hid (Ev w w10' [.var 24 g5 (.bool na) (.slice (some ⟨gl5, 0, none⟩) n_a c5), .var 28 g3 (.bool (decide (x < 0))) (.slice A3 ((digs 2 x.natAbs).length) c3), .own 3 A3 ((digs 2 x.natAbs).length) c3 (i64s (digs 2 x.natAbs)), .var 24 w.heap.size (.bool na) (.slice Aa n_a ca)]) := Lib.hid (Ev.spend [.var 24 g5 (.bool na) (.slice (some ⟨gl5, 0, none⟩) n_a c5)] (.own 48 (some ⟨gl5, 0, none⟩) (n_a + 3) c5 (u32s (la ++ [77, 77, 77]))) [.var 28 g3 (.bool (decide (x < 0))) (.slice A3 ((digs 2 x.natAbs).length) c3), .own 3 A3 ((digs 2 x.natAbs).length) c3 (i64s (digs 2 x.natAbs)), .var 24 w.heap.size (.bool na) (.slice Aa n_a ca)] HE7.out hg10)
  clear hg10 x8a x8b x8c x8d x9a x9b x9c x9d
  go_upto_region 7 with fail
  obtain ⟨x11a, x11b, x11c, x11d⟩ := HE10.out.cells (.tail _ (.head _))
  go_wp2_with fail
  refine (Long_b HL.out _ _ _ _).mono ?_
  rintro ex w12' ⟨rfl, hb12⟩
  have HE12 : Hid (Ev w w12' [.var 24 g5 (.bool na) (.slice (some ⟨gl5, 0, none⟩) n_a c5), .var 28 g3 (.bool (decide (x < 0))) (.slice A3 ((digs 2 x.natAbs).length) c3), .own 3 A3 ((digs 2 x.natAbs).length) c3 (i64s (digs 2 x.natAbs)), .var 24 w.heap.size (.bool na) (.slice Aa n_a ca)]) := Lib.hid (HE10.out.below hb12)
  clear hb12 x11a x11b x11c x11d
  go_upto_region 9 with fail
  obtain ⟨x13a, x13b, x13c, x13d⟩ := HE12.out.cells (.tail _ (.head _))
  go_wp2_with fail
  refine (rFloat_any (bits_sl (HE12.out.has (.tail _ (.tail _ (.head _))))) (Nat.le_refl _) (Nat.le_trans HNX.out (by decide)) HRF.out HRO.out).mono ?_
  rintro ex w14' ⟨rfl, hb14⟩
  have HE14 : Hid (Ev w w14' [.var 24 g5 (.bool na) (.slice (some ⟨gl5, 0, none⟩) n_a c5), .var 28 g3 (.bool (decide (x < 0))) (.slice A3 ((digs 2 x.natAbs).length) c3), .own 3 A3 ((digs 2 x.natAbs).length) c3 (i64s (digs 2 x.natAbs)), .var 24 w.heap.size (.bool na) (.slice Aa n_a ca)]) := Lib.hid (HE12.out.below hb14)
  clear hb14 x13a x13b x13c x13d
  go_upto_region 11 with fail
  go_wp2_with fail
  refine (OfFloat_a _ HFf.out HZ.out HCf.out).mono ?_
  rintro ex w15' ⟨neg15, A15, n15, c15, l15, rfl, ho15, hg15, hb15⟩
  have HG15 := Lib.hid hg15
  clear hg15
  have HE15 : Hid (Ev w (w15'.alloc (.cells #[.bool neg15, .slice A15 n15 c15] 24)) [.var 24 w15'.heap.size (.bool neg15) (.slice A15 n15 c15), .own 48 A15 n15 c15 (u32s l15), .var 24 g5 (.bool na) (.slice (some ⟨gl5, 0, none⟩) n_a c5), .var 28 g3 (.bool (decide (x < 0))) (.slice A3 ((digs 2 x.natAbs).length) c3), .own 3 A3 ((digs 2 x.natAbs).length) c3 (i64s (digs 2 x.natAbs)), .var 24 w.heap.size (.bool na) (.slice Aa n_a ca)]) := Lib.hid (Ev.var (Ev.own HE14.out hb15 ho15) 24 (.bool neg15) (.slice A15 n15 c15))
  clear hb15 ho15 
  go_upto_region 12 with fail
  generalize (w15'.alloc (.cells #[.bool neg15, .slice A15 n15 c15] 24)) = w15 at *
  generalize w15'.heap.size = g15 at *
  go_wp2_with fail
  refine (rOfFloat_no _ HFf.out HG.out).mono ?_
  rintro ex w16' ⟨rfl, hb16⟩
  have HE16 : Hid (Ev w (w16'.alloc (.cells #[.bool false, .slice none 0 0] 28)) [.var 28 w16'.heap.size (.bool false) (.slice none 0 0), .var 24 g15 (.bool neg15) (.slice A15 n15 c15), .own 48 A15 n15 c15 (u32s l15), .var 24 g5 (.bool na) (.slice (some ⟨gl5, 0, none⟩) n_a c5), .var 28 g3 (.bool (decide (x < 0))) (.slice A3 ((digs 2 x.natAbs).length) c3), .own 3 A3 ((digs 2 x.natAbs).length) c3 (i64s (digs 2 x.natAbs)), .var 24 w.heap.size (.bool na) (.slice Aa n_a ca)]) := Lib.hid (Ev.var (Ev.below HE15.out hb16) 28 (.bool false) (.slice none 0 0))
  clear hb16 
  go_upto_region 14 with fail
  generalize (w16'.alloc (.cells #[.bool false, .slice none 0 0] 28)) = w16 at *
  generalize w16'.heap.size = g16 at *
  obtain ⟨rfl, rfl⟩ := HG15.out.2 (by decide)
  obtain ⟨x17a, x17b, x17c, x17d⟩ := HE16.out.cells (.tail _ (.head _))
  go_wp2
  go_ret
  exact ⟨by first | rfl | simp, HE16.out.b⟩
set_option maxRecDepth 100000 in
set_option maxHeartbeats 16000000 in
theorem Floats_fin_good (na : Bool) {Aa : Option Addr} {la : List Nat} {n_a ca : Nat} {w : World} (hsa : SlU w w.heap.size Aa n_a ca la) (hAa : Aa = none → ca = 0) (hna : n_a ≤ 1048576) (f : Nat) (hf : f < 18446744073709551616)
    {x : Int} (hx : ival na la = x) (hl : tooLong x = false) (hi : flInf x.natAbs = false) (hg : f / 4503599627370496 % 2048 ≠ 2047) :
    Calls Try.prog 14 #[.agg #[.bool na, .slice Aa n_a ca], .int .u64 (f : Int)] w fun e w' => e = .returned (.bool true) ∧ Below w.heap.size w w' := by
  have HX := Lib.hid hx
  have HL := Lib.hid hl
  have HFf := Lib.hid hf
  have HG := Lib.hid hg
  obtain ⟨z, hz⟩ : ∃ z, ofZ f = z := ⟨_, rfl⟩
  have HZ := Lib.hid hz
  have HCf := Lib.hid (show ofC f = 0 by rw [ofC, if_neg hg])
  have HCo := Lib.hid (show (0 : Int) = codeOf 0 z by rw [codeOf, if_pos rfl, ← hz, ofZ_short hg]; rfl)
  obtain ⟨F, hF⟩ : ∃ F, rfP x = F := ⟨_, rfl⟩
  have HRF := Lib.hid hF
  have HTB := Lib.hid (show tfB x = F by rw [rfP_tfB hl]; exact hF)
  have HTC := Lib.hid (show tfC x = 0 by rw [tfC, hl, hi]; rfl)
  have HRO := Lib.hid (show (!flInf x.natAbs) = true by rw [hi]; rfl)
  clear hF
  have HNX := Lib.hid (bits_le hsa hna hx)
  have HA := Lib.hid (And.intro hAa hna)
  have HSA := Lib.hid (fun w1 (hb : Below w.heap.size w w1) => hsa.below hb (Nat.le_refl _))
  have HLA := Lib.hid (And.intro hsa.len hsa.dig)
  have he0 := (Ev.var (Ev.nil w) 24 (.bool na) (.slice Aa n_a ca))
  try simp only [World.size_alloc] at he0
  have HE0 : Hid (Ev w (w.alloc (.cells #[.bool na, .slice Aa n_a ca] 24)) [.var 24 w.heap.size (.bool na) (.slice Aa n_a ca)]) := Lib.hid he0
  clear he0
  clear hsa hAa hna hx hl hz hf hg hi
  go_enter Try.func14, Try.ntmps14
  go_upto_region 1 with fail
  generalize (w.alloc (.cells #[.bool na, .slice Aa n_a ca] 24)) = w1 at *
  go_wp2_with fail
  refine (awake_any _).mono ?_
  rintro ex w1' ⟨rfl, hb1⟩
  have HE1 : Hid (Ev w w1' [.var 24 w.heap.size (.bool na) (.slice Aa n_a ca)]) := Lib.hid (HE0.out.below hb1)
  clear hb1 
  go_upto_region 2 with fail
  obtain ⟨x2a, x2b, x2c, x2d⟩ := HE1.out.cells (.head _)
  go_wp2_with fail
  refine (Of_w ((HSA.out _ HE1.out.b).mono HE1.out.b.size) HA.out.2 HX.out).mono ?_
  rintro ex w3' ⟨v, rfl, ⟨A3, c3, rfl, ho3⟩, hb3⟩
  have HE3 : Hid (Ev w (w3'.alloc (.cells #[.bool (decide (x < 0)), .slice A3 ((digs 2 x.natAbs).length) c3] 28)) [.var 28 w3'.heap.size (.bool (decide (x < 0))) (.slice A3 ((digs 2 x.natAbs).length) c3), .own 3 A3 ((digs 2 x.natAbs).length) c3 (i64s (digs 2 x.natAbs)), .var 24 w.heap.size (.bool na) (.slice Aa n_a ca)]) := Lib.hid (Ev.var (Ev.own HE1.out hb3 ho3) 28 (.bool (decide (x < 0))) (.slice A3 ((digs 2 x.natAbs).length) c3))
  clear hb3 ho3 x2a x2b x2c x2d
  go_upto_region 3 with fail
  generalize (w3'.alloc (.cells #[.bool (decide (x < 0)), .slice A3 ((digs 2 x.natAbs).length) c3] 28)) = w3 at *
  generalize w3'.heap.size = g3 at *
  obtain ⟨x4a, x4b, x4c, x4d⟩ := HE3.out.cells (.tail _ (.tail _ (.head _)))
  go_wp2_with fail
  refine (lent_any na ((HSA.out _ HE3.out.b).mono HE3.out.b.size) HA.out.1 (Nat.le_trans HA.out.2 (by decide)) (Nat.le_refl _)).mono ?_
  rintro ex w5' ⟨gl5, c5, rfl, ho5, hb5⟩
  have HE5 : Hid (Ev w (w5'.alloc (.cells #[.bool na, .slice (some ⟨gl5, 0, none⟩) n_a c5] 24)) [.var 24 w5'.heap.size (.bool na) (.slice (some ⟨gl5, 0, none⟩) n_a c5), .own 48 (some ⟨gl5, 0, none⟩) (n_a + 3) c5 (u32s (la ++ [77, 77, 77])), .var 28 g3 (.bool (decide (x < 0))) (.slice A3 ((digs 2 x.natAbs).length) c3), .own 3 A3 ((digs 2 x.natAbs).length) c3 (i64s (digs 2 x.natAbs)), .var 24 w.heap.size (.bool na) (.slice Aa n_a ca)]) := Lib.hid (Ev.var (Ev.own HE3.out hb5 ho5) 24 (.bool na) (.slice (some ⟨gl5, 0, none⟩) n_a c5))
  clear hb5 ho5 x4a x4b x4c x4d
  go_upto_region 4 with fail
  generalize (w5'.alloc (.cells #[.bool na, .slice (some ⟨gl5, 0, none⟩) n_a c5] 24)) = w5 at *
  generalize w5'.heap.size = g5 at *
  obtain ⟨x6a, x6b, x6c, x6d⟩ := HE5.out.cells (.head _)
  go_wp2_with fail
  refine (tf_w (lent_sl (HE5.out.has (.tail _ (.head _))) HLA.out.1 HLA.out.2) HA.out.2 HX.out HTB.out HTC.out).mono ?_
  rintro ex w7' ⟨rfl, hb7⟩
  have HE7 : Hid (Ev w w7' [.var 24 g5 (.bool na) (.slice (some ⟨gl5, 0, none⟩) n_a c5), .own 48 (some ⟨gl5, 0, none⟩) (n_a + 3) c5 (u32s (la ++ [77, 77, 77])), .var 28 g3 (.bool (decide (x < 0))) (.slice A3 ((digs 2 x.natAbs).length) c3), .own 3 A3 ((digs 2 x.natAbs).length) c3 (i64s (digs 2 x.natAbs)), .var 24 w.heap.size (.bool na) (.slice Aa n_a ca)]) := Lib.hid (HE5.out.below hb7)
  clear hb7 x6a x6b x6c x6d
  go_upto_region 5 with fail
  obtain ⟨x8a, x8b, x8c, x8d⟩ := HE7.out.cells (.head _)
  obtain ⟨x9a, x9b, x9c, x9d⟩ := HE7.out.cells (.tail _ (.tail _ (.tail _ (.tail _ (.head _)))))
  go_wp2_with fail
  refine (held_any na (HSA.out _ HE7.out.b) ((HE7.out.2.1 _ (.tail _ (.head _))).2 _ rfl).1 ((HE7.out.2.1 _ (.tail _ (.head _))).2 _ rfl).2 (HE7.out.has (.tail _ (.head _)))).mono ?_
  rintro ex w10' ⟨rfl, hg10⟩
  have HE10 : Hid (Ev w w10' [.var 24 g5 (.bool na) (.slice (some ⟨gl5, 0, none⟩) n_a c5), .var 28 g3 (.bool (decide (x < 0))) (.slice A3 ((digs 2 x.natAbs).length) c3), .own 3 A3 ((digs 2 x.natAbs).length) c3 (i64s (digs 2 x.natAbs)), .var 24 w.heap.size (.bool na) (.slice Aa n_a ca)]) := Lib.hid (Ev.spend [.var 24 g5 (.bool na) (.slice (some ⟨gl5, 0, none⟩) n_a c5)] (.own 48 (some ⟨gl5, 0, none⟩) (n_a + 3) c5 (u32s (la ++ [77, 77, 77]))) [.var 28 g3 (.bool (decide (x < 0))) (.slice A3 ((digs 2 x.natAbs).length) c3), .own 3 A3 ((digs 2 x.natAbs).length) c3 (i64s (digs 2 x.natAbs)), .var 24 w.heap.size (.bool na) (.slice Aa n_a ca)] HE7.out hg10)
  clear hg10 x8a x8b x8c x8d x9a x9b x9c x9d
  go_upto_region 7 with fail
  obtain ⟨x11a, x11b, x11c, x11d⟩ := HE10.out.cells (.tail _ (.head _))
  go_wp2_with fail
  refine (Long_b HL.out _ _ _ _).mono ?_
  rintro ex w12' ⟨rfl, hb12⟩
  have HE12 : Hid (Ev w w12' [.var 24 g5 (.bool na) (.slice (some ⟨gl5, 0, none⟩) n_a c5), .var 28 g3 (.bool (decide (x < 0))) (.slice A3 ((digs 2 x.natAbs).length) c3), .own 3 A3 ((digs 2 x.natAbs).length) c3 (i64s (digs 2 x.natAbs)), .var 24 w.heap.size (.bool na) (.slice Aa n_a ca)]) := Lib.hid (HE10.out.below hb12)
  clear hb12 x11a x11b x11c x11d
  go_upto_region 9 with fail
  obtain ⟨x13a, x13b, x13c, x13d⟩ := HE12.out.cells (.tail _ (.head _))
  go_wp2_with fail
  refine (rFloat_any (bits_sl (HE12.out.has (.tail _ (.tail _ (.head _))))) (Nat.le_refl _) (Nat.le_trans HNX.out (by decide)) HRF.out HRO.out).mono ?_
  rintro ex w14' ⟨rfl, hb14⟩
  have HE14 : Hid (Ev w w14' [.var 24 g5 (.bool na) (.slice (some ⟨gl5, 0, none⟩) n_a c5), .var 28 g3 (.bool (decide (x < 0))) (.slice A3 ((digs 2 x.natAbs).length) c3), .own 3 A3 ((digs 2 x.natAbs).length) c3 (i64s (digs 2 x.natAbs)), .var 24 w.heap.size (.bool na) (.slice Aa n_a ca)]) := Lib.hid (HE12.out.below hb14)
  clear hb14 x13a x13b x13c x13d
  go_upto_region 11 with fail
  go_wp2_with fail
  refine (OfFloat_a _ HFf.out HZ.out HCf.out).mono ?_
  rintro ex w15' ⟨neg15, A15, n15, c15, l15, rfl, ho15, hg15, hb15⟩
  have HG15 := Lib.hid hg15
  clear hg15
  have HE15 : Hid (Ev w (w15'.alloc (.cells #[.bool neg15, .slice A15 n15 c15] 24)) [.var 24 w15'.heap.size (.bool neg15) (.slice A15 n15 c15), .own 48 A15 n15 c15 (u32s l15), .var 24 g5 (.bool na) (.slice (some ⟨gl5, 0, none⟩) n_a c5), .var 28 g3 (.bool (decide (x < 0))) (.slice A3 ((digs 2 x.natAbs).length) c3), .own 3 A3 ((digs 2 x.natAbs).length) c3 (i64s (digs 2 x.natAbs)), .var 24 w.heap.size (.bool na) (.slice Aa n_a ca)]) := Lib.hid (Ev.var (Ev.own HE14.out hb15 ho15) 24 (.bool neg15) (.slice A15 n15 c15))
  clear hb15 ho15 
  go_upto_region 12 with fail
  generalize (w15'.alloc (.cells #[.bool neg15, .slice A15 n15 c15] 24)) = w15 at *
  generalize w15'.heap.size = g15 at *
  go_wp2_with fail
  refine (rOfFloat_z _ HFf.out HG.out HZ.out).mono ?_
  rintro ex w16' ⟨A16, c16, rfl, hs16, hb16⟩
  have HSW : Hid (SlI (w16'.alloc (.cells #[.bool (decide (z < 0)), .slice A16 (digs 2 z.natAbs).length c16] 28)) (w16'.alloc (.cells #[.bool (decide (z < 0)), .slice A16 (digs 2 z.natAbs).length c16] 28)).heap.size A16 (digs 2 z.natAbs).length c16 (digs 2 z.natAbs)) := Lib.hid ((hs16.below (C := w16'.heap.size) ((Below.refl w16'.heap.size w16').alloc (Nat.le_refl _) _) (Nat.le_refl _)).mono (by simp))
  clear hs16
  have HE16 : Hid (Ev w (w16'.alloc (.cells #[.bool (decide (z < 0)), .slice A16 ((digs 2 z.natAbs).length) c16] 28)) [.var 28 w16'.heap.size (.bool (decide (z < 0))) (.slice A16 ((digs 2 z.natAbs).length) c16), .var 24 g15 (.bool neg15) (.slice A15 n15 c15), .own 48 A15 n15 c15 (u32s l15), .var 24 g5 (.bool na) (.slice (some ⟨gl5, 0, none⟩) n_a c5), .var 28 g3 (.bool (decide (x < 0))) (.slice A3 ((digs 2 x.natAbs).length) c3), .own 3 A3 ((digs 2 x.natAbs).length) c3 (i64s (digs 2 x.natAbs)), .var 24 w.heap.size (.bool na) (.slice Aa n_a ca)]) := Lib.hid (Ev.var (Ev.below HE15.out hb16) 28 (.bool (decide (z < 0))) (.slice A16 ((digs 2 z.natAbs).length) c16))
  clear hb16 
  go_upto_region 15 with fail
  generalize (w16'.alloc (.cells #[.bool (decide (z < 0)), .slice A16 ((digs 2 z.natAbs).length) c16] 28)) = w16 at *
  generalize w16'.heap.size = g16 at *
  obtain ⟨x17a, x17b, x17c, x17d⟩ := HE16.out.cells (.tail _ (.head _))
  obtain ⟨x18a, x18b, x18c, x18d⟩ := HE16.out.cells (.head _)
  go_wp2_with fail
  refine (is_w (HE16.out.has (.tail _ (.tail _ (.head _)))) HE16.out.b.size HG15.out HSW.out (Nat.le_refl _) HCo.out).mono ?_
  rintro ex w19' ⟨rfl, hg19⟩
  have HE19 : Hid (Ev w w19' [.var 28 g16 (.bool (decide (z < 0))) (.slice A16 ((digs 2 z.natAbs).length) c16), .var 24 g15 (.bool neg15) (.slice A15 n15 c15), .var 24 g5 (.bool na) (.slice (some ⟨gl5, 0, none⟩) n_a c5), .var 28 g3 (.bool (decide (x < 0))) (.slice A3 ((digs 2 x.natAbs).length) c3), .own 3 A3 ((digs 2 x.natAbs).length) c3 (i64s (digs 2 x.natAbs)), .var 24 w.heap.size (.bool na) (.slice Aa n_a ca)]) := Lib.hid (Ev.spend [.var 28 g16 (.bool (decide (z < 0))) (.slice A16 ((digs 2 z.natAbs).length) c16), .var 24 g15 (.bool neg15) (.slice A15 n15 c15)] (.own 48 A15 n15 c15 (u32s l15)) [.var 24 g5 (.bool na) (.slice (some ⟨gl5, 0, none⟩) n_a c5), .var 28 g3 (.bool (decide (x < 0))) (.slice A3 ((digs 2 x.natAbs).length) c3), .own 3 A3 ((digs 2 x.natAbs).length) c3 (i64s (digs 2 x.natAbs)), .var 24 w.heap.size (.bool na) (.slice Aa n_a ca)] HE16.out hg19)
  clear hg19 x17a x17b x17c x17d x18a x18b x18c x18d
  go_upto_region 16 with fail
  go_wp2
  go_ret
  exact ⟨by first | rfl | simp, HE19.out.b⟩
set_option maxRecDepth 100000 in
set_option maxHeartbeats 16000000 in
theorem Floats_fin_bad (na : Bool) {Aa : Option Addr} {la : List Nat} {n_a ca : Nat} {w : World} (hsa : SlU w w.heap.size Aa n_a ca la) (hAa : Aa = none → ca = 0) (hna : n_a ≤ 1048576) (f : Nat) (hf : f < 18446744073709551616)
    {x : Int} (hx : ival na la = x) (hl : tooLong x = false) (hi : flInf x.natAbs = false) (hg : f / 4503599627370496 % 2048 = 2047) :
    Calls Try.prog 14 #[.agg #[.bool na, .slice Aa n_a ca], .int .u64 (f : Int)] w fun e w' => e = .returned (.bool true) ∧ Below w.heap.size w w' := by
  have HX := Lib.hid hx
  have HL := Lib.hid hl
  have HFf := Lib.hid hf
  have HG := Lib.hid hg
  obtain ⟨z, hz⟩ : ∃ z, ofZ f = z := ⟨_, rfl⟩
  have HZ := Lib.hid hz
  have HCf := Lib.hid (show ofC f = 14 by rw [ofC, if_pos hg])
  obtain ⟨F, hF⟩ : ∃ F, rfP x = F := ⟨_, rfl⟩
  have HRF := Lib.hid hF
  have HTB := Lib.hid (show tfB x = F by rw [rfP_tfB hl]; exact hF)
  have HTC := Lib.hid (show tfC x = 0 by rw [tfC, hl, hi]; rfl)
  have HRO := Lib.hid (show (!flInf x.natAbs) = true by rw [hi]; rfl)
  clear hF
  have HNX := Lib.hid (bits_le hsa hna hx)
  have HA := Lib.hid (And.intro hAa hna)
  have HSA := Lib.hid (fun w1 (hb : Below w.heap.size w w1) => hsa.below hb (Nat.le_refl _))
  have HLA := Lib.hid (And.intro hsa.len hsa.dig)
  have he0 := (Ev.var (Ev.nil w) 24 (.bool na) (.slice Aa n_a ca))
  try simp only [World.size_alloc] at he0
  have HE0 : Hid (Ev w (w.alloc (.cells #[.bool na, .slice Aa n_a ca] 24)) [.var 24 w.heap.size (.bool na) (.slice Aa n_a ca)]) := Lib.hid he0
  clear he0
  clear hsa hAa hna hx hl hz hf hg hi
  go_enter Try.func14, Try.ntmps14
  go_upto_region 1 with fail
  generalize (w.alloc (.cells #[.bool na, .slice Aa n_a ca] 24)) = w1 at *
  go_wp2_with fail
  refine (awake_any _).mono ?_
  rintro ex w1' ⟨rfl, hb1⟩
  have HE1 : Hid (Ev w w1' [.var 24 w.heap.size (.bool na) (.slice Aa n_a ca)]) := Lib.hid (HE0.out.below hb1)
  clear hb1 
  go_upto_region 2 with fail
  obtain ⟨x2a, x2b, x2c, x2d⟩ := HE1.out.cells (.head _)
  go_wp2_with fail
  refine (Of_w ((HSA.out _ HE1.out.b).mono HE1.out.b.size) HA.out.2 HX.out).mono ?_
  rintro ex w3' ⟨v, rfl, ⟨A3, c3, rfl, ho3⟩, hb3⟩
  have HE3 : Hid (Ev w (w3'.alloc (.cells #[.bool (decide (x < 0)), .slice A3 ((digs 2 x.natAbs).length) c3] 28)) [.var 28 w3'.heap.size (.bool (decide (x < 0))) (.slice A3 ((digs 2 x.natAbs).length) c3), .own 3 A3 ((digs 2 x.natAbs).length) c3 (i64s (digs 2 x.natAbs)), .var 24 w.heap.size (.bool na) (.slice Aa n_a ca)]) := Lib.hid (Ev.var (Ev.own HE1.out hb3 ho3) 28 (.bool (decide (x < 0))) (.slice A3 ((digs 2 x.natAbs).length) c3))
  clear hb3 ho3 x2a x2b x2c x2d
  go_upto_region 3 with fail
  generalize (w3'.alloc (.cells #[.bool (decide (x < 0)), .slice A3 ((digs 2 x.natAbs).length) c3] 28)) = w3 at *
  generalize w3'.heap.size = g3 at *
  obtain ⟨x4a, x4b, x4c, x4d⟩ := HE3.out.cells (.tail _ (.tail _ (.head _)))
  go_wp2_with fail
  refine (lent_any na ((HSA.out _ HE3.out.b).mono HE3.out.b.size) HA.out.1 (Nat.le_trans HA.out.2 (by decide)) (Nat.le_refl _)).mono ?_
  rintro ex w5' ⟨gl5, c5, rfl, ho5, hb5⟩
  have HE5 : Hid (Ev w (w5'.alloc (.cells #[.bool na, .slice (some ⟨gl5, 0, none⟩) n_a c5] 24)) [.var 24 w5'.heap.size (.bool na) (.slice (some ⟨gl5, 0, none⟩) n_a c5), .own 48 (some ⟨gl5, 0, none⟩) (n_a + 3) c5 (u32s (la ++ [77, 77, 77])), .var 28 g3 (.bool (decide (x < 0))) (.slice A3 ((digs 2 x.natAbs).length) c3), .own 3 A3 ((digs 2 x.natAbs).length) c3 (i64s (digs 2 x.natAbs)), .var 24 w.heap.size (.bool na) (.slice Aa n_a ca)]) := Lib.hid (Ev.var (Ev.own HE3.out hb5 ho5) 24 (.bool na) (.slice (some ⟨gl5, 0, none⟩) n_a c5))
  clear hb5 ho5 x4a x4b x4c x4d
  go_upto_region 4 with fail
  generalize (w5'.alloc (.cells #[.bool na, .slice (some ⟨gl5, 0, none⟩) n_a c5] 24)) = w5 at *
  generalize w5'.heap.size = g5 at *
  obtain ⟨x6a, x6b, x6c, x6d⟩ := HE5.out.cells (.head _)
  go_wp2_with fail
  refine (tf_w (lent_sl (HE5.out.has (.tail _ (.head _))) HLA.out.1 HLA.out.2) HA.out.2 HX.out HTB.out HTC.out).mono ?_
  rintro ex w7' ⟨rfl, hb7⟩
  have HE7 : Hid (Ev w w7' [.var 24 g5 (.bool na) (.slice (some ⟨gl5, 0, none⟩) n_a c5), .own 48 (some ⟨gl5, 0, none⟩) (n_a + 3) c5 (u32s (la ++ [77, 77, 77])), .var 28 g3 (.bool (decide (x < 0))) (.slice A3 ((digs 2 x.natAbs).length) c3), .own 3 A3 ((digs 2 x.natAbs).length) c3 (i64s (digs 2 x.natAbs)), .var 24 w.heap.size (.bool na) (.slice Aa n_a ca)]) := Lib.hid (HE5.out.below hb7)
  clear hb7 x6a x6b x6c x6d
  go_upto_region 5 with fail
  obtain ⟨x8a, x8b, x8c, x8d⟩ := HE7.out.cells (.head _)
  obtain ⟨x9a, x9b, x9c, x9d⟩ := HE7.out.cells (.tail _ (.tail _ (.tail _ (.tail _ (.head _)))))
  go_wp2_with fail
  refine (held_any na (HSA.out _ HE7.out.b) ((HE7.out.2.1 _ (.tail _ (.head _))).2 _ rfl).1 ((HE7.out.2.1 _ (.tail _ (.head _))).2 _ rfl).2 (HE7.out.has (.tail _ (.head _)))).mono ?_
  rintro ex w10' ⟨rfl, hg10⟩
  have HE10 : Hid (Ev w w10' [.var 24 g5 (.bool na) (.slice (some ⟨gl5, 0, none⟩) n_a c5), .var 28 g3 (.bool (decide (x < 0))) (.slice A3 ((digs 2 x.natAbs).length) c3), .own 3 A3 ((digs 2 x.natAbs).length) c3 (i64s (digs 2 x.natAbs)), .var 24 w.heap.size (.bool na) (.slice Aa n_a ca)]) := Lib.hid (Ev.spend [.var 24 g5 (.bool na) (.slice (some ⟨gl5, 0, none⟩) n_a c5)] (.own 48 (some ⟨gl5, 0, none⟩) (n_a + 3) c5 (u32s (la ++ [77, 77, 77]))) [.var 28 g3 (.bool (decide (x < 0))) (.slice A3 ((digs 2 x.natAbs).length) c3), .own 3 A3 ((digs 2 x.natAbs).length) c3 (i64s (digs 2 x.natAbs)), .var 24 w.heap.size (.bool na) (.slice Aa n_a ca)] HE7.out hg10)
  clear hg10 x8a x8b x8c x8d x9a x9b x9c x9d
  go_upto_region 7 with fail
  obtain ⟨x11a, x11b, x11c, x11d⟩ := HE10.out.cells (.tail _ (.head _))
  go_wp2_with fail
  refine (Long_b HL.out _ _ _ _).mono ?_
  rintro ex w12' ⟨rfl, hb12⟩
  have HE12 : Hid (Ev w w12' [.var 24 g5 (.bool na) (.slice (some ⟨gl5, 0, none⟩) n_a c5), .var 28 g3 (.bool (decide (x < 0))) (.slice A3 ((digs 2 x.natAbs).length) c3), .own 3 A3 ((digs 2 x.natAbs).length) c3 (i64s (digs 2 x.natAbs)), .var 24 w.heap.size (.bool na) (.slice Aa n_a ca)]) := Lib.hid (HE10.out.below hb12)
  clear hb12 x11a x11b x11c x11d
  go_upto_region 9 with fail
  obtain ⟨x13a, x13b, x13c, x13d⟩ := HE12.out.cells (.tail _ (.head _))
  go_wp2_with fail
  refine (rFloat_any (bits_sl (HE12.out.has (.tail _ (.tail _ (.head _))))) (Nat.le_refl _) (Nat.le_trans HNX.out (by decide)) HRF.out HRO.out).mono ?_
  rintro ex w14' ⟨rfl, hb14⟩
  have HE14 : Hid (Ev w w14' [.var 24 g5 (.bool na) (.slice (some ⟨gl5, 0, none⟩) n_a c5), .var 28 g3 (.bool (decide (x < 0))) (.slice A3 ((digs 2 x.natAbs).length) c3), .own 3 A3 ((digs 2 x.natAbs).length) c3 (i64s (digs 2 x.natAbs)), .var 24 w.heap.size (.bool na) (.slice Aa n_a ca)]) := Lib.hid (HE12.out.below hb14)
  clear hb14 x13a x13b x13c x13d
  go_upto_region 11 with fail
  go_wp2_with fail
  refine (OfFloat_a _ HFf.out HZ.out HCf.out).mono ?_
  rintro ex w15' ⟨neg15, A15, n15, c15, l15, rfl, ho15, hg15, hb15⟩
  have HG15 := Lib.hid hg15
  clear hg15
  have HE15 : Hid (Ev w (w15'.alloc (.cells #[.bool neg15, .slice A15 n15 c15] 24)) [.var 24 w15'.heap.size (.bool neg15) (.slice A15 n15 c15), .own 48 A15 n15 c15 (u32s l15), .var 24 g5 (.bool na) (.slice (some ⟨gl5, 0, none⟩) n_a c5), .var 28 g3 (.bool (decide (x < 0))) (.slice A3 ((digs 2 x.natAbs).length) c3), .own 3 A3 ((digs 2 x.natAbs).length) c3 (i64s (digs 2 x.natAbs)), .var 24 w.heap.size (.bool na) (.slice Aa n_a ca)]) := Lib.hid (Ev.var (Ev.own HE14.out hb15 ho15) 24 (.bool neg15) (.slice A15 n15 c15))
  clear hb15 ho15 
  go_upto_region 12 with fail
  generalize (w15'.alloc (.cells #[.bool neg15, .slice A15 n15 c15] 24)) = w15 at *
  generalize w15'.heap.size = g15 at *
  go_wp2_with fail
  refine (rOfFloat_no _ HFf.out HG.out).mono ?_
  rintro ex w16' ⟨rfl, hb16⟩
  have HE16 : Hid (Ev w (w16'.alloc (.cells #[.bool false, .slice none 0 0] 28)) [.var 28 w16'.heap.size (.bool false) (.slice none 0 0), .var 24 g15 (.bool neg15) (.slice A15 n15 c15), .own 48 A15 n15 c15 (u32s l15), .var 24 g5 (.bool na) (.slice (some ⟨gl5, 0, none⟩) n_a c5), .var 28 g3 (.bool (decide (x < 0))) (.slice A3 ((digs 2 x.natAbs).length) c3), .own 3 A3 ((digs 2 x.natAbs).length) c3 (i64s (digs 2 x.natAbs)), .var 24 w.heap.size (.bool na) (.slice Aa n_a ca)]) := Lib.hid (Ev.var (Ev.below HE15.out hb16) 28 (.bool false) (.slice none 0 0))
  clear hb16 
  go_upto_region 14 with fail
  generalize (w16'.alloc (.cells #[.bool false, .slice none 0 0] 28)) = w16 at *
  generalize w16'.heap.size = g16 at *
  obtain ⟨rfl, rfl⟩ := HG15.out.2 (by decide)
  obtain ⟨x17a, x17b, x17c, x17d⟩ := HE16.out.cells (.tail _ (.head _))
  go_wp2
  go_ret
  exact ⟨by first | rfl | simp, HE16.out.b⟩
theorem Floats_walk (na : Bool) {Aa : Option Addr} {la : List Nat} {n_a ca : Nat} {w : World} (hsa : SlU w w.heap.size Aa n_a ca la) (hAa : Aa = none → ca = 0) {f : Nat} (hf : f < 18446744073709551616) (hna : n_a ≤ 1048576) :
    Calls Try.prog 14 #[.agg #[.bool na, .slice Aa n_a ca], .int .u64 (f : Int)] w fun e w' => e = .returned (.bool true) ∧ Below w.heap.size w w' := by
  cases hl : tooLong (ival na la)
  · cases hi : flInf (ival na la).natAbs
    · by_cases hg : f / 4503599627370496 % 2048 = 2047
      · exact Floats_fin_bad na hsa hAa hna f hf rfl hl hi hg
      · exact Floats_fin_good na hsa hAa hna f hf rfl hl hi hg
    · by_cases hg : f / 4503599627370496 % 2048 = 2047
      · exact Floats_inf_bad na hsa hAa hna f hf rfl hl hi hg
      · exact Floats_inf_good na hsa hAa hna f hf rfl hl hi hg
  · by_cases hg : f / 4503599627370496 % 2048 = 2047
    · exact Floats_long_bad na hsa hAa hna f hf rfl hl hg
    · exact Floats_long_good na hsa hAa hna f hf rfl hl hg
end Go.Proofs.Ytggdmhkdmkldoaa
