import Derived.Test.YtpikjceodmepiaaZf
import Derived.Test.YtpikjceodmepiaaZg
import Derived.Test.YtpikjceodmepiaaZh
namespace Go.Proofs.Ytpikjceodmepiaa
open Go.RowKit Hb Hf
set_option linter.unusedVariables false
set_option linter.unusedSimpArgs false
attribute [local go_sem ↓] Go.wp_at_zero Go.wp_at_succ
/-! ### a walk from end to end: plain -/
theorem fin_low : ∀ {N : List R}, Hf.fin N → ∃ m, ∀ z, Hf.mem z N → m ≤ z
  | [], _ => ⟨0, fun z h => (mem_nil h).elim⟩
  | r :: N, h => by
    obtain ⟨m, hm⟩ := fin_low (N := N) (fun s hs => h s (List.mem_cons_of_mem _ hs))
    obtain ⟨x, y, rfl⟩ := h r List.mem_cons_self
    refine ⟨min m x, fun z hz => ?_⟩
    rcases mem_cons.1 hz with h1 | h1
    · have : x ≤ z := h1.1
      omega
    · have := hm z h1
      omega
theorem fin_high : ∀ {N : List R}, Hf.fin N → ∃ m, ∀ z, Hf.mem z N → z ≤ m
  | [], _ => ⟨0, fun z h => (mem_nil h).elim⟩
  | r :: N, h => by
    obtain ⟨m, hm⟩ := fin_high (N := N) (fun s hs => h s (List.mem_cons_of_mem _ hs))
    obtain ⟨x, y, rfl⟩ := h r List.mem_cons_self
    refine ⟨max m y, fun z hz => ?_⟩
    rcases mem_cons.1 hz with h1 | h1
    · have : z ≤ y := h1.2
      omega
    · have := hm z h1
      omega
theorem fin_of_bounds {L : List R} {m p : Int} {r : R} {z : Int} (hr : r ∈ L) (hz : inR z r) (hm : ∀ z, Hf.mem z L → m ≤ z) (hp : ∀ z, Hf.mem z L → z ≤ p) : ∃ x y, r = (.num x, .num y) := by
  obtain ⟨a, b⟩ := r
  cases a with
  | hi => exact hz.1.elim
  | lo =>
    have := hm (min z m - 1) ⟨_, hr, trivial, hib_mono hz.2 (by omega)⟩
    omega
  | num x =>
    cases b with
    | lo => exact hz.2.elim
    | hi =>
      have := hp (max z p + 1) ⟨_, hr, lob_mono hz.1 (by omega), trivial⟩
      omega
    | num y => exact ⟨x, y, rfl⟩
theorem mem_size {L N : List R} {M : Nat} {z : Int} (hb : Bnd M L) (hf : Hf.fin N) (hm : ∀ z, Hf.mem z N ↔ Hf.mem z L) (hz : Hf.mem z N) : (digs W z.natAbs).length ≤ M := by
  obtain ⟨m, h1⟩ := fin_low hf
  obtain ⟨p, h2⟩ := fin_high hf
  obtain ⟨r, hr, hi⟩ := (hm z).1 hz
  obtain ⟨x, y, rfl⟩ := fin_of_bounds hr hi (fun t ht => h1 t ((hm t).2 ht)) (fun t ht => h2 t ((hm t).2 ht))
  have h3 := hb _ hr
  have a := lt_of_digs_length (b := W) (by decide) h3.1
  have b := lt_of_digs_length (b := W) (by decide) h3.2
  have c : x ≤ z := hi.1
  have d : z ≤ y := hi.2
  refine digs_length_le (by decide) ?_
  generalize W ^ M = X at *
  omega
theorem cnt_le {l : List R} {z : Int} (hf : Hf.fin l) (hok : ∀ r ∈ l, ok r) : cnt z l ≤ sizeP l := by
  induction l with
  | nil => exact Int.le_refl _
  | cons r l ih =>
    obtain ⟨x, y, rfl⟩ := hf r List.mem_cons_self
    obtain ⟨k, h1, h2⟩ := hok _ List.mem_cons_self
    have h1 : x ≤ k := h1
    have h2 : k ≤ y := h2
    have := ih (fun r hr => hf r (List.mem_cons_of_mem _ hr)) (fun r hr => hok r (List.mem_cons_of_mem _ hr))
    show max 0 (min y z - x + 1) + cnt z l ≤ y - x + 1 + sizeP l
    omega
theorem cnt_first {N : List R} {r : R} (h : NF N) (hf : Hf.fin N) (hr : N[0]? = some r) : ∃ x, r.1 = .num x ∧ cnt x N = 1 ∧ Hf.mem x N := by
  cases N with
  | nil => cases hr
  | cons s l =>
    simp only [List.getElem?_cons_zero, Option.some.injEq] at hr
    subst hr
    obtain ⟨x, y, rfl⟩ := hf s List.mem_cons_self
    obtain ⟨k, h1, h2⟩ := h.head
    have h1 : x ≤ k := h1
    have h2 : k ≤ y := h2
    have h3 := cnt_above (l := l) (z := x) (fun r hr => hf r (List.mem_cons_of_mem _ hr)) (fun k hk => by
      obtain ⟨y', e, h⟩ := h.above hk
      injection e with e
      omega) (NF.iff.1 h.tail).1
    refine ⟨x, rfl, ?_, mem_cons.2 (.inl ⟨Int.le_refl x, show x ≤ y by omega⟩)⟩
    show max 0 (min y x - x + 1) + cnt x l = 1
    omega
theorem last_is : ∀ {N : List R} {s : R}, NF N → Hf.fin N → N[N.length - 1]? = some s → ∃ y, s.2 = .num y ∧ Hf.mem y N ∧ ∀ k, Hf.mem k N → k ≤ y
  | [], s, _, _, h => by cases h
  | [r], s, hn, hf, h => by
    simp only [List.length_singleton, Nat.sub_self, List.getElem?_cons_zero, Option.some.injEq] at h
    subst h
    obtain ⟨x, y, rfl⟩ := hf _ List.mem_cons_self
    obtain ⟨k, h1, h2⟩ := hn.head
    have h1 : x ≤ k := h1
    have h2 : k ≤ y := h2
    exact ⟨y, rfl, mem_cons.2 (.inl ⟨show x ≤ y by omega, Int.le_refl y⟩), fun q hq => by
      rcases mem_cons.1 hq with h | h
      · exact h.2
      · exact (mem_nil h).elim⟩
  | r :: t :: N, s, hn, hf, h => by
    obtain ⟨y, e, h1, h2⟩ := last_is (N := t :: N) (s := s) hn.tail (fun r hr => hf r (List.mem_cons_of_mem _ hr)) (by simpa using h)
    refine ⟨y, e, mem_cons.2 (.inr h1), fun q hq => ?_⟩
    rcases mem_cons.1 hq with h | h
    · obtain ⟨y', e', h3⟩ := hn.above h1
      obtain ⟨a, b⟩ := r
      simp only at e'
      subst e'
      have : q ≤ y' := h.2
      omega
    · exact h2 q h
theorem cmpZ_self (z : Int) : cmpZ z z = 0 := by simp [cmpZ]
/-- a finite set that is walked -/
structure Wk (N : List R) (k : Int) (a : Int) : Prop where
  nf : NF N
  fn : Hf.fin N
  sz : sizeP N = k
  le : k ≤ 100
  top : Hf.mem a N ∧ ∀ q, Hf.mem q N → q ≤ a
theorem Wk.step {N : List R} {k a z : Int} (h : Wk N k a) (hz : Hf.mem z N) : cnt z N ≤ 100 ∧
    ((nextP N (.num (z + 1)) = none ∧ cnt z N = k ∧ z = a) ∨ (∃ q, nextP N (.num (z + 1)) = some (.num q) ∧ Hf.mem q N ∧ z < q ∧ cnt q N = cnt z N + 1)) := by
  have h1 := cnt_le (z := z) h.fn (NF.iff.1 h.nf).1
  have h2 := h.sz
  have h3 := h.le
  refine ⟨by omega, ?_⟩
  rcases next_spec (n := z) h.nf with ⟨a1, a2⟩ | ⟨q, b1, b2, b3, b4⟩
  · refine .inl ⟨a1, by rw [cnt_all h.fn a2 (NF.iff.1 h.nf).1]; exact h2, ?_⟩
    have := a2 a h.top.1
    have := h.top.2 z hz
    omega
  · exact .inr ⟨q, b1, b2, b3, cnt_next h.nf h.fn hz b2 b3 b4⟩
/-- the loop's head: the set, the number that is reached, the highest -/
structure WL (w : World) (B H G n c : Nat) (A : Option Addr) (qs : List Rg) (N : List R) (hi : Bd) (z : Int) (A2 : Option Addr) (c2 : Nat) (wr : World) : Prop where
  bel : Below B w wr
  big : B ≤ H
  ord : H < G
  inp : SIn wr (fun b => b < H) A n c qs 40 60
  num : IBox wr G (decide (z < 0)) (.slice A2 (digs W z.natAbs).length c2)
  lim : (nb z A2 c2).At wr (fun b => b ≠ G ∧ b < wr.heap.size)
  top : EBox wr H hi
  til : hi.At wr (fun b => b < H)
  isin : Hf.mem z N
set_option maxRecDepth 100000 in
set_option maxHeartbeats 8000000 in
theorem walks_walk {w : World} {A1 : Option Addr} {n1 c1 : Nat} {p1 : List Rg} (h1 : SetP w (fun b => b < w.heap.size) A1 n1 c1 p1) (z1 : ZnR p1) :
    Calls Try.prog 5 #[.slice A1 n1 c1] w fun e w' => e = .returned (.bool true) ∧ Below w.heap.size w w' := by
  obtain ⟨B, hB⟩ : ∃ B, w.heap.size = B := ⟨_, rfl⟩
  have HB0 := Lib.hid (show Below B w w from hB ▸ Below.refl _ _)
  have hS0 : B ≤ w.heap.size := by omega
  have G1 := Lib.hid (fun u (hb : Below B w u) => (few_any (w := u) (h1.keep (Q := fun b => b < B) (fun b hk => ⟨by omega, hb.block b (by omega)⟩)) (fun b hk => by have := hb.size; omega) z1))
  rw [hB]
  clear h1 z1 hB
  go_enter Try.func5, Try.ntmps5
  go_wp2_with fail
  (with_reducible refine (awake_ok).mono ?_)
  rintro e u1 ⟨he, hb⟩
  subst he
  have HB1 := Lib.hid (HB0.out.trans (hb.mono hS0))
  have hS1 : B ≤ u1.heap.size := Nat.le_trans hS0 hb.size
  clear hb HB0 hS0
  go_wp2_with fail
  (with_reducible refine (G1.out _ HB1.out).mono ?_)
  rintro e u2 ⟨A, n, c, qs, he, hs, hb⟩
  subst he
  have X := Lib.hid hs
  have HB2 := Lib.hid (HB1.out.trans (hb.mono hS1))
  have hS2 : B ≤ u2.heap.size := Nat.le_trans hS1 hb.size
  clear hs hb G1 HB1 hS1
  go_wp2_with fail
  (with_reducible refine (Size_ok X.out (fun b hb => hb.2) (by omega) (by omega)).mono ?_)
  rintro e u3 ⟨N, hN, hm, hb, hc⟩
  have HN := Lib.hid (And.intro hN hm)
  have X3 := Lib.hid (X.out.keep (Q := fun b => b < u2.heap.size) (fun b hx => ⟨hx.2, hb.block b hx.2⟩))
  have HB3 := Lib.hid (HB2.out.trans (hb.mono hS2))
  have hS3 : u2.heap.size ≤ u3.heap.size := hb.size
  clear hN hm hb HB2 X
  rcases hc with ⟨hf, A5, c5, he, ho⟩ | ⟨hf, he⟩
  rotate_left
  · subst he
    have HZ := Lib.hid (IBox.of_new (w := u3) false (.slice none 0 0))
    obtain ⟨y0, y1⟩ := HZ.out.cells
    have HT := Lib.hid (fun y => to_any false (w := y) ((LimP.nil y (fun _ => False) none (c := 0) (by simp [maxLen])).sl (B := 0) (fun _ h => h.elim)) (Nat.zero_le _))
    have HBz := Lib.hid ((HB3.out.trans ((Below.refl _ u3).mono (by omega))).alloc (by omega) (.cells #[.bool false, .slice none 0 0] 25))
    go_wp2_with fail
    (with_reducible refine (HT.out _).mono ?_)
    rintro e u4 ⟨he, hb4⟩
    subst he
    have HB4 := Lib.hid (HBz.out.trans (hb4.mono (by simp; omega)))
    obtain ⟨kv, hkv⟩ : ∃ x, toV (ival false []) = x := ⟨_, rfl⟩
    obtain ⟨bs, hbs⟩ : ∃ x, toB (ival false []) = x := ⟨_, rfl⟩
    rw [hkv, hbs]
    clear hkv hbs hb4
    go_wp2_with fail
    first | (go_ret; exact ⟨rfl, HB4.out⟩) | exact bodyPost_ret (v := .bool true) (by simp [results, Try.results5, go_sem]) rfl ⟨rfl, HB4.out⟩
  · subst he
    obtain ⟨S, hS⟩ : ∃ S, sizeP N = S := ⟨_, rfl⟩
    rw [hS] at ho
    rw [hS]
    have HF := Lib.hid (And.intro hf hS)
    have HZ := Lib.hid (IBox.of_new (w := u3) (decide (S < 0)) (.slice A5 (digs W S.natAbs).length c5))
    obtain ⟨y0, y1⟩ := HZ.out.cells
    have HT := Lib.hid (fun y (hy : Below u3.heap.size u3 y) => to_any (decide (S < 0)) (w := y) ((ho.sl (dig_digs (by decide) _) rfl).below hy (Nat.le_refl _)) hy.size)
    have HBz := Lib.hid ((HB3.out.trans ((Below.refl _ u3).mono (by omega))).alloc (by omega) (.cells #[.bool (decide (S < 0)), .slice A5 (digs W S.natAbs).length c5] 25))
    have HBy := Lib.hid ((Below.refl u3.heap.size u3).alloc (Nat.le_refl _) (.cells #[.bool (decide (S < 0)), .slice A5 (digs W S.natAbs).length c5] 25))
    clear hf hS ho
    go_wp2_with fail
    (with_reducible refine (HT.out _ HBy.out).mono ?_)
    rintro e u4 ⟨he, hb4⟩
    subst he
    have HB4 := Lib.hid (HBz.out.trans (hb4.mono (by simp; omega)))
    have X4 := Lib.hid (X3.out.keep (Q := fun b => b < u2.heap.size) (fun b hx => ⟨hx, (hb4.block b (by simp; omega)).trans (HBy.out.block b (by omega))⟩))
    have hS4 : u2.heap.size ≤ u4.heap.size := Nat.le_trans hS3 (Nat.le_trans HBy.out.size hb4.size)
    rw [ival_digs]
    clear y0 y1 HT HBz HBy HZ HB3 X3 hb4
    obtain ⟨kv, hkv⟩ : ∃ x, toV S = x := ⟨_, rfl⟩
    obtain ⟨bs, hbs⟩ : ∃ x, toB S = x := ⟨_, rfl⟩
    rw [hkv, hbs]
    have HK := Lib.hid (And.intro hkv hbs)
    clear hkv hbs
    cases bs
    · clear HK
      go_wp2_with fail
      first | (go_ret; exact ⟨rfl, HB4.out⟩) | exact bodyPost_ret (v := .bool true) (by simp [results, Try.results5, go_sem]) rfl ⟨rfl, HB4.out⟩
    · by_cases hk : 100 < kv
      · go_wp2_with fail
        first | (go_ret; exact ⟨rfl, HB4.out⟩) | exact bodyPost_ret (v := .bool true) (by simp [results, Try.results5, go_sem]) rfl ⟨rfl, HB4.out⟩
      · have hkS : S = kv := by rw [← HK.out.1]; unfold toV; rw [HK.out.2]; rfl
        go_wp2_with fail
        (with_reducible refine (Ends_ok X4.out (fun b hb => by omega) (by omega) (by omega)).mono ?_)
        rintro e u5 ⟨N', hN', hm', hb5, hc⟩
        have hNN : N' = N := NF.uniq hN' HN.out.1 (fun z => (hm' z).trans (HN.out.2 z).symm)
        subst hNN
        have HB5 := Lib.hid (HB4.out.trans (hb5.mono (by omega)))
        have X5 := Lib.hid (X4.out.keep (Q := fun b => b < u2.heap.size) (fun b hx => ⟨hx, hb5.block b (by omega)⟩))
        have hS5 := hb5.size
        clear hN' hm' hb5 X4 HB4
        rcases hc with ⟨hn, he⟩ | ⟨r, s, a, b, hr, hs, ha, hb, na, nb', ta, tb, he⟩
        · simp only [ib, Bd.v, Bd.vals] at he
          subst he
          have hk0 : kv = 0 := by rw [← hkS, ← HF.out.2, hn]; rfl
          subst hk0
          have HB4 := Lib.hid ((HB5.out.alloc (by omega) (.cells #[.int .i64 0, .bool false, .slice none 0 0] 39)).alloc (by simp; omega) (.cells #[.int .i64 0, .bool false, .slice none 0 0] 39))
          go_wp2_with fail
          first | (go_ret; exact ⟨rfl, HB4.out⟩) | exact bodyPost_ret (v := .bool true) (by simp [results, Try.results5, go_sem]) rfl ⟨rfl, HB4.out⟩
        · obtain ⟨x, hx1, hx2, hx3⟩ := cnt_first HN.out.1 HF.out.1 hr
          obtain ⟨y, hy1, hy2, hy3⟩ := last_is HN.out.1 HF.out.1 hs
          have ea : a = nb x a.A a.c := na.is_nb ta.lim.len (ha.trans hx1)
          have eb : b = nb y b.A b.c := nb'.is_nb tb.lim.len (hb.trans hy1)
          obtain ⟨aA, ac, ea2⟩ : ∃ A c, a = nb x A c := ⟨_, _, ea⟩
          obtain ⟨bA, bc, eb2⟩ : ∃ A c, b = nb y A c := ⟨_, _, eb⟩
          clear ea eb
          subst ea2
          subst eb2
          have HW := Lib.hid (show Wk N' kv y from ⟨HN.out.1, HF.out.1, HF.out.2.trans hkS, by omega, hy2, hy3⟩)
          have HX := Lib.hid (And.intro hx2 hx3)
          have HA := Lib.hid (And.intro ta tb)
          clear hr hs ha hb na nb' ta tb hx1 hx2 hx3 hy1 hy2 hy3
          simp only [nb, Bd.v, Bd.vals] at he
          subst he
          have HE1 := Lib.hid (EBox.new u5 (nb x aA ac))
          have HBa := Lib.hid (show Below u5.heap.size u5 (u5.alloc (.cells (nb x aA ac).vals.toArray 39)) from (Below.refl _ _).alloc (Nat.le_refl _) _)
          have HE2 := Lib.hid (EBox.new (u5.alloc (.cells (nb x aA ac).vals.toArray 39)) (nb y bA bc))
          have HBb := Lib.hid (show Below (u5.heap.size + 1) (u5.alloc (.cells (nb x aA ac).vals.toArray 39)) ((u5.alloc (.cells (nb x aA ac).vals.toArray 39)).alloc (.cells (nb y bA bc).vals.toArray 39)) from (Below.refl _ _).alloc (by simp) _)
          have HZ6 := Lib.hid (show ((u5.alloc (.cells (nb x aA ac).vals.toArray 39)).alloc (.cells (nb y bA bc).vals.toArray 39)).heap.size = u5.heap.size + 2 by simp)
          have HE3 := Lib.hid (HE1.out.below (HBb.out.mono (by simp)))
          rw [World.size_alloc] at HE2
          simp only [nb, Bd.vals] at HE1 HE2 HE3 HBa HBb HZ6
          go_upto_region 8 with fail
          generalize hw6 : ((u5.alloc (.cells #[.int .i64 0, .bool (decide (x < 0)), .slice aA (digs W x.natAbs).length ac] 39)).alloc (.cells #[.int .i64 0, .bool (decide (y < 0)), .slice bA (digs W y.natAbs).length bc] 39)) = w6 at *
          have hz6 := HZ6.out
          have hza := HBa.out.size
          have HB6 := Lib.hid (show Below B w w6 from HB5.out.trans ((HBa.out.mono (by omega)).trans (HBb.out.mono (by omega))))
          have hblk : ∀ b, b < u5.heap.size → w6.heap[b]? = u5.heap[b]? := fun b hb => (HBb.out.block b (by omega)).trans (HBa.out.block b hb)
          have X6 := Lib.hid (X5.out.keep (Q := fun b => b < u5.heap.size) (fun b hx => ⟨by omega, hblk b (by omega)⟩))
          have HA6 := Lib.hid (And.intro (HA.out.1.keep (Q := fun b => b < u5.heap.size) (fun b hx => ⟨hx.2, hblk b hx.2⟩)) (HA.out.2.keep (Q := fun b => b < u5.heap.size) (fun b hx => ⟨hx.2, hblk b hx.2⟩)))
          clear hw6 HB5 X5 HA HE1 HBa HBb hblk hza
          obtain ⟨x0, x1, x2⟩ := HE3.out.cells
          simp only at x0 x1 x2
          have hlt6 : u5.heap.size < w6.heap.size := by omega
          obtain ⟨H, hH⟩ : ∃ H, u5.heap.size + 1 = H := ⟨_, rfl⟩
          obtain ⟨G, hG⟩ : ∃ G, u5.heap.size + 2 = G := ⟨_, rfl⟩
          rw [hH] at HE2
          have HN1 := Lib.hid (IBox.of_new (w := w6) (decide (x < 0)) (.slice aA (digs W x.natAbs).length ac))
          have HBn := Lib.hid ((Below.refl w6.heap.size w6).alloc (Nat.le_refl _) (.cells #[.bool (decide (x < 0)), .slice aA (digs W x.natAbs).length ac] 25))
          have HWL := Lib.hid (show WL w B H G n c A qs N' ⟨0, decide (y < 0), bA, (digs W y.natAbs).length, bc, digs W y.natAbs⟩ x aA ac (w6.alloc (.cells #[.bool (decide (x < 0)), .slice aA (digs W x.natAbs).length ac] 25)) from
            ⟨HB6.out.trans (HBn.out.mono (by omega)), by omega, by omega, X6.out.keep (fun b hb => ⟨by omega, HBn.out.block b (by omega)⟩), (show w6.heap.size = G by omega) ▸ HN1.out, HA6.out.1.keep (fun b hb => ⟨⟨by omega, by have := HBn.out.size; omega⟩, HBn.out.block b (by omega)⟩), HE2.out.below HBn.out, HA6.out.2.keep (fun b hb => ⟨by omega, HBn.out.block b (by omega)⟩), HX.out.2⟩)
          go_upto_region 12 with fail
          (try rw [hH])
          (try rw [hG])
          clear x0 x1 x2 hH hG HE3 HN1 HBn HE2 HA6 HB6 X6 hlt6 hz6 HZ6
          generalize (w6.alloc (.cells #[.bool (decide (x < 0)), .slice aA (digs W x.natAbs).length ac] 25)) = w7 at *
          go_wp2_with fail
          go_loopw [15, 16] (fun vm vi wr => ∃ (m : Nat) (z : Int) (A2 : Option Addr) (c2 : Nat), cnt z N' = (m : Int) + 1 ∧ vm = .int .i64 ((m : Int) + 1) ∧ vi = .int .i64 (m : Int) ∧ Hid (WL w B H G n c A qs N' ⟨0, decide (y < 0), bA, (digs W y.natAbs).length, bc, digs W y.natAbs⟩ z A2 c2 wr)) (fun _ vi _ => 200 - (intOf vi).toNat)
          case atStart => exact ⟨0, x, aA, ac, HX.out.1, rfl, rfl, HWL⟩
          case round =>
            obtain ⟨m, z, A2, c2, hm, rfl, rfl, HI⟩ := hrel
            clear HWL HX
            have hst := HW.out.step HI.out.isin
            rw [hm] at hst
            have hmi : (m : Int) < 200 := by omega
            have HSt := Lib.hid hst.2
            have hm1 := hst.1
            clear hst
            have HMem := Lib.hid (show memB z (qs.map edsR) = true from memB_iff.2 ((HN.out.2 z).1 HI.out.isin))
            have HLen := Lib.hid (mem_size HI.out.inp.bnd HF.out.1 HN.out.2 HI.out.isin)
            obtain ⟨b0, b1⟩ := HI.out.num.cells
            have hgl := HI.out.num.lt
            have hord := HI.out.ord
            have HX1 := Lib.hid (HI.out.inp.keep (Q := fun b => b < wr.heap.size) (fun b hb => ⟨by omega, rfl⟩))
            have HL1 := Lib.hid (show LimP wr (fun b => b < wr.heap.size) A2 (digs W z.natAbs).length c2 (digs W z.natAbs) from HI.out.lim.lim.wide (fun b hb => hb.2))
            go_wp2_with fail
            (with_reducible refine (Has_ok HX1.out HL1.out (Nat.le_trans HLen.out (by omega)) (fun b hb => hb) (by omega) (by omega) (ival_digs z)).mono ?_)
            rintro e v1 ⟨he, hb1⟩
            subst he
            rw [HMem.out]
            have HV1 := Lib.hid hb1
            have hsv := hb1.size
            have HN1 := Lib.hid (HI.out.num.below hb1)
            have HX2 := Lib.hid (HX1.out.keep (Q := fun b => b < v1.heap.size) (fun b hb => ⟨by omega, hb1.block b hb⟩))
            have HL2 := Lib.hid (HL1.out.keep (Q := fun b => b < v1.heap.size) (fun b hb => ⟨by omega, hb1.block b hb⟩))
            clear b0 b1 hb1
            obtain ⟨b0, b1⟩ := HN1.out.cells
            go_wp2_with fail
            (with_reducible refine (Next_ok HX2.out HL2.out (Nat.le_trans HLen.out (by omega)) (fun b hb => hb) (by omega) (by omega) (ival_digs z)).mono ?_)
            rintro e v2 ⟨N2, hN2, hm2, hb2, hc⟩
            have hNN2 : N2 = N' := NF.uniq hN2 HN.out.1 (fun z => (hm2 z).trans (HN.out.2 z).symm)
            subst hNN2
            have HV2 := Lib.hid (HV1.out.trans (hb2.mono hsv))
            clear hN2 hm2
            rcases hc with ⟨hnx, he⟩ | ⟨q, A3, c3, hnx, he, hq⟩
            · subst he
              have hka : kv = (m : Int) + 1 ∧ z = y := by
                rcases HSt.out with ⟨_, h1, h2⟩ | ⟨q, h1, _⟩
                · exact ⟨h1.symm, h2⟩
                · rw [h1] at hnx; cases hnx
              obtain ⟨hk1, hzy⟩ := hka
              subst hzy
              have hkk : ((m : Int) + 1 == kv) = true := by rw [hk1]; exact beq_self_eq_true _
              have HBk := Lib.hid (show Below v2.heap.size v2 (v2.alloc (.cells #[.bool false, .slice none 0 0] 25)) from (Below.refl _ _).alloc (Nat.le_refl _) _)
              have HBw := Lib.hid (HV2.out.trans (HBk.out.mono HV2.out.size))
              have HN3 := Lib.hid (HI.out.num.below HBw.out)
              have HT3 := Lib.hid (HI.out.top.below HBw.out)
              have HC := Lib.hid (fun y (hy : Below wr.heap.size wr y) => Cmp_gr (decide (z < 0)) (decide (z < 0)) (w := y) ((HL1.out.sl (B := wr.heap.size) (fun b hb => hb)).below hy (Nat.le_refl _)) ((HI.out.til.lim.sl (B := wr.heap.size) (fun b hb => by omega)).below hy (Nat.le_refl _)) hy.size hy.size)
              clear b0 b1 hk1 hnx hb2
              obtain ⟨b0, b1⟩ := HN3.out.cells
              obtain ⟨y0, y1, y2⟩ := HT3.out.cells
              simp only at y0 y1 y2
              have gl3 := HN3.out.lt
              have hl3 := HT3.out.lt
              go_wp2_with fail
              (with_reducible refine (HC.out _ HBw.out).mono ?_)
              rintro e v3 ⟨he, hg⟩
              subst he
              rw [ival_digs, cmpZ_self]
              have HB4 := Lib.hid (HI.out.bel.trans ((HBw.out.trans (hg.bel.mono HBw.out.size)).mono (by have := HI.out.big; omega)))
              go_wp2_with fail
              first | (go_ret; exact ⟨rfl, HB4.out⟩) | exact bodyPost_ret (v := .bool true) (by simp [results, Try.results5, go_sem]) rfl ⟨rfl, HB4.out⟩
            · subst he
              have hka : Hf.mem q N2 ∧ z < q ∧ cnt q N2 = (m : Int) + 1 + 1 := by
                rcases HSt.out with ⟨h1, _⟩ | ⟨q', h1, h2, h3, h4⟩
                · rw [h1] at hnx; cases hnx
                · rw [h1] at hnx
                  injection hnx with hnx
                  injection hnx with hnx
                  subst hnx
                  exact ⟨h2, h3, h4⟩
              have HKa := Lib.hid hka
              have HQ := Lib.hid hq
              have HBk := Lib.hid (show Below v2.heap.size v2 (v2.alloc (.cells #[.bool (decide (q < 0)), .slice A3 (digs W q.natAbs).length c3] 25)) from (Below.refl _ _).alloc (Nat.le_refl _) _)
              have HBw := Lib.hid (HV2.out.trans (HBk.out.mono HV2.out.size))
              have HN3 := Lib.hid (HI.out.num.below HBw.out)
              have HQ3 := Lib.hid (IBox.of_new (w := v2) (decide (q < 0)) (.slice A3 (digs W q.natAbs).length c3))
              have HC := Lib.hid (fun y (hy : Below wr.heap.size wr y) (hy2 : Below v2.heap.size v2 y) => Cmp_gr (decide (q < 0)) (decide (z < 0)) (w := y) ((show SlU v2 v2.heap.size A3 (digs W q.natAbs).length c3 (digs W q.natAbs) from HQ.out.lim.sl (B := v2.heap.size) (fun b hb => hb.2)).below hy2 (Nat.le_refl _)) ((HL1.out.sl (B := wr.heap.size) (fun b hb => hb)).below hy (Nat.le_refl _)) hy2.size hy.size)
              have HZ2 := Lib.hid hb2.size
              clear b0 b1 hka hnx hb2 hq
              obtain ⟨b0, b1⟩ := HN3.out.cells
              obtain ⟨y0, y1⟩ := HQ3.out.cells
              have gl3 := HN3.out.lt
              have ql3 := HQ3.out.lt
              go_wp2_with fail
              (with_reducible refine (HC.out _ HBw.out HBk.out).mono ?_)
              rintro e v3 ⟨he, hg⟩
              subst he
              rw [ival_digs, ival_digs, cmpZ_gt HKa.out.2.1]
              have HG3 := Lib.hid hg.bel
              have HBv := Lib.hid (HBw.out.trans (hg.bel.mono HBw.out.size))
              have HQ4 := Lib.hid (HQ3.out.below hg.bel)
              have HN4 := Lib.hid (HN3.out.below hg.bel)
              clear b0 b1 y0 y1 hg HC
              obtain ⟨y0, y1⟩ := HQ4.out.cells
              obtain ⟨b0, b1⟩ := HN4.out.cells
              obtain ⟨f0, f1⟩ := HN4.out.frozens
              have gl4 := HN4.out.lt
              have ql4 := HQ4.out.lt
              have HSet := Lib.hid (HN4.out.set2 (decide (q < 0)) (.slice A3 (digs W q.natAbs).length c3))
              go_wp2_with fail
              go_roundw
              case rel =>
                have hbig := HI.out.big
                have hu := HBv.out.size
                have hz2 := HZ2.out
                have hk2 := HBk.out.size
                have hg3 := HG3.out.size
                have hu2 := HSet.out.2.size
                refine ⟨m + 1, q, A3, c3, by rw [HKa.out.2.2]; omega, by go_num, by go_num, Lib.hid ⟨(HI.out.bel.trans (HBv.out.mono (by omega))).grown HSet.out.2 (by omega) (fun j e => by injection e with e; omega), hbig, hord, ?_, HSet.out.1, ?_, (HI.out.top.below HBv.out).gro HSet.out.2 (by omega), ?_, HKa.out.1⟩⟩
                · exact HI.out.inp.keep (fun b hb => ⟨hb, (HSet.out.2.block b (by omega) (fun e => by injection e with e; omega)).trans (HBv.out.block b (by omega))⟩)
                · exact HQ.out.keep (fun b hb => ⟨⟨by have := hb.1; omega, by have := hb.2; omega⟩, (HSet.out.2.block b (by have := hb.2; omega) (fun e => by injection e with e; have := hb.1; omega)).trans ((HG3.out.block b (by have := hb.2; omega)).trans (HBk.out.block b hb.2))⟩)
                · exact HI.out.til.keep (fun b hb => ⟨hb, (HSet.out.2.block b (by omega) (fun e => by injection e with e; omega)).trans (HBv.out.block b (by omega))⟩)
              case measure => simp [intOf]; omega
end Go.Proofs.Ytpikjceodmepiaa
