import Derived.Test.YtpikjceodmepiaaAfm
import Derived.Test.YtpikjceodmepiaaQallm
set_option linter.unusedVariables false
set_option linter.unusedSimpArgs false
namespace Go.Proofs.Ytpikjceodmepiaa
open Go.RowKit Hb Hf
set_option linter.unusedVariables false
set_option linter.unusedSimpArgs false
attribute [local go_sem ↓] Go.wp_at_zero Go.wp_at_succ
/-! ### the reference: turns -/
def sz2 : Ed → Nat
  | .num z => (digs 2 z.natAbs).length
  | _ => 0
def Bn2 (M : Nat) (L : List R) : Prop := ∀ r ∈ L, sz2 r.1 ≤ M ∧ sz2 r.2 ≤ M
theorem len2_up {z : Int} {M : Nat} (d : Int) (hd : d.natAbs ≤ 1) (h : (digs 2 z.natAbs).length ≤ M) : (digs 2 (z + d).natAbs).length ≤ M + 1 := by
  have a := lt_of_digs_length (b := 2) (by decide) h
  refine digs_length_le (by decide) ?_
  rw [Nat.pow_succ]
  have c : (z + d).natAbs ≤ z.natAbs + d.natAbs := Int.natAbs_add_le z d
  have e : 0 < 2 ^ M := Nat.pow_pos (by decide)
  omega
theorem rsum_dd {w : World} {B B' c c' : Nat} {A A' : Option Addr} {x y z : Int} (hs : SlI w B A (digs 2 x.natAbs).length c (digs 2 x.natAbs)) (ht : SlI w B' A' (digs 2 y.natAbs).length c' (digs 2 y.natAbs)) (hn : (digs 2 x.natAbs).length ≤ 2000000000) (hn' : (digs 2 y.natAbs).length ≤ 2000000000) (hB : B ≤ w.heap.size) (hB' : B' ≤ w.heap.size) (hz : x + y = z) :
    Calls Try.prog 81 #[.agg #[.bool (decide (x < 0)), .slice A (digs 2 x.natAbs).length c], .agg #[.bool (decide (y < 0)), .slice A' (digs 2 y.natAbs).length c']] w (PostB w z) :=
  rsum_any hs ht (by omega) (by omega) hB hB' (nrm_digs (by decide) _) (nrm_digs (by decide) _) (bval_digs x) (bval_digs y) hz
theorem ResB.at_ {w : World} {B : Nat} {v : Value} {z : Int} (h : ResB w B v z) : ∃ A c, v = .agg #[.bool (decide (z < 0)), .slice A (digs 2 z.natAbs).length c] ∧ Bg.At w (Fr B w) ⟨z, A, c⟩ := by
  obtain ⟨A, c, hv, ho⟩ := h
  exact ⟨A, c, hv, LimB.of_own ho (dig_digs (by decide) _)⟩
theorem wp_region_HS {P : Program} {ops : Array Oper} {Q : Exit → Act → World → Prop} {id : Nat} {a : Act} {w : World} (S : World → Prop) (hm : P.follows .mixedOrders = true)
    (h : ∀ z, Below w.heap.size w z → z.heap.size = w.heap.size → wpAnyH P .any ops Q S ops.size (Array.replicate ops.size false) a z) : (Code.region id ops true).wp P Q a w :=
  wp_region_any hm (wpAny_of_held _ _ _ _ (h w.drew (Below.refl _ _).drew rfl))
/-- a list of numbers of the call's own -/
structure TL (w : World) (P : Nat → Prop) (B : Nat) (M : Nat) (zs : List Int) (A : Option Addr) (m c : Nat) (bs : List Bg) (wr : World) : Prop where
  bel : Below B w wr
  le : B ≤ wr.heap.size
  row : BRow wr B (Or P B wr) A m c bs
  val : bs.map Bg.z = zs
  sz : ∀ b ∈ bs, b.n ≤ M + 1
theorem TL.below {w wr w' : World} {P : Nat → Prop} {B M m c : Nat} {zs : List Int} {A : Option Addr} {bs : List Bg} (h : TL w P B M zs A m c bs wr) (hP : ∀ b, P b → b < B) (hb : Below wr.heap.size wr w') : TL w P B M zs A m c bs w' :=
  ⟨h.bel.trans (hb.mono h.le), Nat.le_trans h.le hb.size, h.row.up h.le hP hb, h.val, h.sz⟩
theorem TL.len {w wr : World} {P : Nat → Prop} {B M m c : Nat} {zs : List Int} {A : Option Addr} {bs : List Bg} (h : TL w P B M zs A m c bs wr) : m = zs.length := by
  rw [← h.val, List.length_map, h.row.len]
theorem TL.add {w wr w' : World} {P : Nat → Prop} {B M m c c' : Nat} {zs : List Int} {A A' : Option Addr} {bs : List Bg} {q : Bg} (h : TL w P B M zs A m c bs wr) (hb : Below B wr w') (hs : wr.heap.size ≤ w'.heap.size) (hrow : BRow w' B (Or P B w') A' (m + 1) c' (bs ++ [q])) (hq : q.n ≤ M + 1) : TL w P B M (zs ++ [q.z]) A' (m + 1) c' (bs ++ [q]) w' :=
  ⟨h.bel.trans hb, Nat.le_trans h.le hs, hrow, by rw [List.map_append, h.val]; rfl, fun b hb2 => by
    rcases List.mem_append.1 hb2 with h1 | h1
    · exact h.sz b h1
    · rw [List.mem_singleton.1 h1]; exact hq⟩
theorem BRow.ne_box {w : World} {B n c X : Nat} {P : Nat → Prop} {A : Option Addr} {ps : List Bg} {p : Rg} (h : BRow w B P A n c ps) (hx : SBox w X p) : (Value.slice A n c).ownBlock ≠ some X := by
  rcases h.own.2 with ⟨h1, _⟩ | ⟨g1, cap, cur, h1, h2, h3, h4⟩
  · injection h1 with a b c; subst a; simp [Value.ownBlock]
  · intro e
    injection h1 with a b c
    subst a
    have e2 : g1 = X := by
      simp only [Value.ownBlock] at e
      injection e
    subst e2
    unfold SBox at hx
    rw [hx] at h3
    injection h3 with h3
    injection h3 with _ h5 _
    revert h5
    decide
theorem cmpZ_same (z : Int) : cmpZ z z = 0 := by simp [cmpZ]
theorem shift_one {α : Type} {os : List α} {p : Nat} {x y : α} (hp : os[p]? = some y) : (os.take (p + 1) ++ x :: os.drop (p + 1)).set (p + 1) y = os.take p ++ y :: os.drop p := by
  have hl : p < os.length := (List.getElem?_eq_some_iff.1 hp).1
  have h1 : (os.take (p + 1)).length = p + 1 := by rw [List.length_take]; omega
  have h2 : os.drop p = y :: os.drop (p + 1) := by
    rw [List.drop_eq_getElem_cons hl, (List.getElem?_eq_some_iff.1 hp).2]
  rw [List.set_append_right _ _ (by omega), h1, Nat.sub_self, List.set_cons_zero, List.take_add_one, hp, h2, List.append_assoc]
  rfl
theorem put_one {α : Type} {os : List α} {k : Nat} {x y : α} (hk : k ≤ os.length) : (os.take k ++ x :: os.drop k).set k y = os.take k ++ y :: os.drop k := by
  have h1 : (os.take k).length = k := by rw [List.length_take]; omega
  rw [List.set_append_right _ _ (by omega), h1, Nat.sub_self, List.set_cons_zero]
theorem mid_get {α : Type} {os : List α} {k : Nat} {x : α} (hk : k ≤ os.length) : (os.take k ++ x :: os.drop k)[k]? = some x := by
  have h1 : (os.take k).length = k := by rw [List.length_take]; omega
  rw [List.getElem?_append_right (by omega), h1, Nat.sub_self]
  rfl
theorem mid_low {α : Type} {os : List α} {k j : Nat} {x : α} (hj : j < k) (hk : k ≤ os.length) : (os.take k ++ x :: os.drop k)[j]? = os[j]? := by
  rw [List.getElem?_append_left (by rw [List.length_take]; omega), List.getElem?_take, if_pos hj]
def Lst (i : Nat) (L : List R) : List R := if i = 0 then [] else L
/-- what is put in order so far: of the first i of Z -/
structure OL (wo : World) (C M : Nat) (Z : List Int) (i : Nat) (A : Option Addr) (n c : Nat) (os : List Bg) (wr : World) : Prop where
  bel : Below C wo wr
  le : C ≤ wr.heap.size
  row : BRow wr C (Or (fun b => b < C) C wr) A n c os
  asc : Asc (os.map Bg.z)
  mem : ∀ x, x ∈ os.map Bg.z ↔ x ∈ Z.take i
  sz : ∀ b ∈ os, b.n ≤ M + 1
  len : n ≤ i
theorem OL.below {wo wr w' : World} {C M i n c : Nat} {Z : List Int} {A : Option Addr} {os : List Bg} (h : OL wo C M Z i A n c os wr) (hb : Below wr.heap.size wr w') : OL wo C M Z i A n c os w' :=
  ⟨h.bel.trans (hb.mono h.le), Nat.le_trans h.le hb.size, h.row.up h.le (fun _ h => h) hb, h.asc, h.mem, h.sz, h.len⟩
theorem OL.skip {wo wr : World} {C M i n c : Nat} {Z : List Int} {A : Option Addr} {os : List Bg} {z : Int} (h : OL wo C M Z i A n c os wr) (hz : Z[i]? = some z) (hm : z ∈ os.map Bg.z) : OL wo C M Z (i + 1) A n c os wr :=
  ⟨h.bel, h.le, h.row, h.asc, fun x => by
    rw [List.take_add_one, hz, List.mem_append, ← h.mem]
    simp only [Option.toList, List.mem_singleton]
    constructor
    · exact .inl
    · rintro (k | rfl)
      · exact k
      · exact hm, h.sz, by have := h.len; omega⟩
theorem OL.ins {wo wr w' : World} {C M i n c k c' : Nat} {Z : List Int} {A A' : Option Addr} {os : List Bg} {q : Bg} (h : OL wo C M Z i A n c os wr) (hz : Z[i]? = some q.z) (h1 : ∀ x ∈ (os.map Bg.z).take k, x < q.z) (h2 : ∀ x, (os.map Bg.z)[k]? = some x → q.z < x) (hq : q.n ≤ M + 1)
    (hb : Below C wr w') (hl : C ≤ w'.heap.size) (hrow : BRow w' C (Or (fun b => b < C) C w') A' (n + 1) c' (os.take k ++ q :: os.drop k)) : OL wo C M Z (i + 1) A' (n + 1) c' (os.take k ++ q :: os.drop k) w' :=
  ⟨h.bel.trans hb, hl, hrow, by
    rw [List.map_append, List.map_cons, List.map_take, List.map_drop]
    exact h.asc.ins h1 (h.asc.above h2), fun x => by
    rw [List.take_add_one, hz, List.mem_append, ← h.mem, List.map_append, List.map_cons, List.map_take, List.map_drop, mem_ins]
    simp only [Option.toList, List.mem_singleton]
    exact Or.comm, fun b hb2 => by
    rcases List.mem_append.1 hb2 with h3 | h3
    · exact h.sz b (List.mem_of_mem_take h3)
    · rcases List.mem_cons.1 h3 with rfl | h3
      · exact hq
      · exact h.sz b (List.mem_of_mem_drop h3), by have := h.len; omega⟩
def TurnsPostB (B : Nat) (w : World) (L : List R) (M : Nat) (e : Ending) (w' : World) : Prop :=
  ∃ A' n' c' bs, e = .returned (.slice A' n' c') ∧ BRow w' B (fun b => b < w'.heap.size) A' n' c' bs ∧ Asc (bs.map Bg.z) ∧ (∀ x, x ∈ bs.map Bg.z ↔ x ∈ tnL L) ∧ n' ≤ 2 * L.length ∧ (∀ b ∈ bs, b.n ≤ M + 1) ∧ Below B w w'
def TurnsPost (w : World) (L : List R) (M : Nat) (e : Ending) (w' : World) : Prop := TurnsPostB w.heap.size w L M e w'
set_option maxRecDepth 100000 in
set_option maxHeartbeats 8000000 in
theorem turns_any {w : World} {P : Nat → Prop} {A : Option Addr} {n c G cG M : Nat} {ps : List Rg} (h : RefS w P A n c ps) (hP : ∀ b, P b → b < w.heap.size) (h0 : w.cell? ⟨G, 0, none⟩ = some (.slice A n c)) (h1 : w.cell? ⟨G, 1, none⟩ = some (.slice none 0 0)) (hG : G < w.heap.size)
    (hM : Bn2 M (ps.map edsS)) (hM9 : M < 1000000000) (hn : n ≤ 1000000000) :
    Calls Try.prog 77 #[.slice (some ⟨G, 0, none⟩) 2 cG] w (TurnsPost w (ps.map edsS) M) := by
  have HS := Lib.hid h
  have HP := Lib.hid hP
  have HGc := Lib.hid (And.intro h0 h1)
  obtain ⟨on, hon⟩ : ∃ on : Int, on = 1 := ⟨1, rfl⟩
  have HOn := Lib.hid hon
  have HF1 := Lib.hid (fun w1 => show Calls Try.prog 82 #[.int .i64 1] w1 (PostB w1 on) from by rw [hon]; exact Small_any 1 (by omega) w1)
  clear hon
  have HLn := Lib.hid h.row.len
  have HMs := Lib.hid (And.intro hM hM9)
  have HN9 := Lib.hid hn
  obtain ⟨L, hL⟩ : ∃ L, ps.map edsS = L := ⟨_, rfl⟩
  have HL := Lib.hid hL
  have HLl := Lib.hid (show L.length = n by rw [← hL, List.length_map]; exact h.row.len)
  obtain ⟨B, hB⟩ : ∃ B, w.heap.size = B := ⟨_, rfl⟩
  have HB := Lib.hid hB
  have HN0 := Lib.hid (show TL w P B M (tnL (Lst 0 L)) none 0 0 [] w from ⟨Below.refl _ _, by omega, BRow.nil _ _ _, rfl, fun b hb => by cases hb⟩)
  have hGB : G < B := by omega
  have hPB : ∀ b, P b → b < B := fun b hb => by have := hP b hb; omega
  have HPB := Lib.hid hPB
  have HSets := Lib.hid (fun (i : Nat) (hi : i < 2) => show ∃ As ns cs qs, w.cell? ⟨G, i, none⟩ = some (.slice As ns cs) ∧ RefS w P As ns cs qs ∧ Lst (i + 1) L = Lst i L ++ qs.map edsS ∧ ns ≤ 1000000000 ∧ Bn2 M (qs.map edsS) by
    rcases (by omega : i = 0 ∨ i = 1) with rfl | rfl
    · exact ⟨A, n, c, ps, h0, h, by rw [hL]; simp [Lst], hn, hM⟩
    · exact ⟨none, 0, 0, [], h1, RefS.nil _ _, by simp [Lst], by omega, fun r hr => by cases hr⟩)
  rw [hL]
  unfold TurnsPost
  rw [hB]
  rw [hL] at HMs
  clear h hP h0 h1 hM hn hL hB hG hPB
  go_enter Try.func77, Try.ntmps77
  go_wp2_with fail
  go_loopw [3, 4] (fun vl vi wr => ∃ i A' m c' bs, i ≤ 2 ∧ vi = .int .i64 (i : Nat) ∧ vl = .slice A' m c' ∧ Hid (TL w P B M (tnL (Lst i L)) A' m c' bs wr)) (fun _ vi _ => 2 - (intOf vi).toNat)
  case atStart => exact ⟨0, none, 0, 0, [], Nat.zero_le _, rfl, rfl, HN0⟩
  case round =>
    obtain ⟨i, A2, m, c2, bs, hi, rfl, rfl, HI⟩ := hrel
    clear HN0
    by_cases hi2 : i < 2
    · obtain ⟨As, ns, cs, qs, hcl, hrs, hnx, hns, hqM⟩ := HSets.out i hi2
      have HQs := Lib.hid hrs
      have HNx := Lib.hid hnx
      have HqM := Lib.hid hqM
      have HCl := Lib.hid (fun (z : World) (hz : Below B w z) => (World.cell?_of_block (a := ⟨G, i, none⟩) (hz.block G hGB)).trans hcl)
      have HQl := Lib.hid hrs.row.len
      have hcap := hrs.row.cap
      have hmax := hrs.row.max
      unfold maxLen at hmax
      have hii : (i : Int) < 2 := by omega
      have hi0 : (0 : Int) ≤ (i : Int) := by omega
      have HI0 := Lib.hid (show TL w P B M (tnL (Lst i L) ++ tnL ((qs.map edsS).take 0)) A2 m c2 bs wr from by simpa [tnL] using HI.out)
      clear hcl hrs hnx hqM HI
      generalize wr = wo at *
      go_wp2_with fail
      go_loopw [3, 5] (fun vl vk wr => ∃ k A' m' c' bs', k ≤ ns ∧ vk = .int .i64 (k : Nat) ∧ vl = .slice A' m' c' ∧ Hid (TL w P B M (tnL (Lst i L) ++ tnL ((qs.map edsS).take k)) A' m' c' bs' wr)) (fun _ vk _ => ns - (intOf vk).toNat)
      case atStart => exact ⟨0, A2, m, c2, bs, Nat.zero_le _, rfl, rfl, HI0⟩
      case round =>
        obtain ⟨k, A3, m3, c3, bs3, hk, rfl, rfl, HJ⟩ := hrel
        clear HI0
        have x0 := HCl.out wr HJ.out.bel
        by_cases hkn : k < ns
        · obtain ⟨p, hp⟩ : ∃ p, qs[k]? = some p := ⟨qs[k]'(by have := HQl.out; omega), by simp⟩
          obtain ⟨b, o, rfl, hPb, q0, q1, q2, q3, q4, q5⟩ := HQs.out.row.at_ hp
          have hbB : b < B := HPB.out b hPb
          have HKp := Lib.hid (HQs.out.kid p (List.mem_of_getElem? hp))
          have HPk := Lib.hid (show (qs.map edsS)[k]? = some (edsS p) by simp [hp])
          have HMp := Lib.hid (HqM.out (edsS p) (List.mem_of_getElem? HPk.out))
          have hblk := HJ.out.bel.block b hbB
          have i0 := (World.cell?_of_block (a := ⟨b, o + k * 6, none⟩) hblk).trans q0
          have i1 := (World.cell?_of_block (a := ⟨b, o + k * 6 + 1, none⟩) hblk).trans q1
          have i2 := (World.cell?_of_block (a := ⟨b, o + k * 6 + 2, none⟩) hblk).trans q2
          have i3 := (World.cell?_of_block (a := ⟨b, o + k * 6 + 3, none⟩) hblk).trans q3
          have i4 := (World.cell?_of_block (a := ⟨b, o + k * 6 + 4, none⟩) hblk).trans q4
          have i5 := (World.cell?_of_block (a := ⟨b, o + k * 6 + 5, none⟩) hblk).trans q5
          have HEd := Lib.hid (show edsS p = (p.1.ed2, p.2.ed2) from rfl)
          have HX := Lib.hid (SBox.new wr p)
          have HBx := Lib.hid (show Below wr.heap.size wr (wr.alloc (.cells (cells6 p).toArray 68)) from (Below.refl _ _).alloc (Nat.le_refl _) _)
          obtain ⟨p1, p2⟩ := p
          obtain ⟨e1, he1⟩ : ∃ e, p1.ed2 = e := ⟨_, rfl⟩
          obtain ⟨e2, he2⟩ : ∃ e, p2.ed2 = e := ⟨_, rfl⟩
          have hk1 := HKp.out.a
          have hk2 := HKp.out.b
          simp only [he1, he2] at HEd hk1 hk2
          obtain ⟨pA, pc, hr1⟩ := hk1.is
          obtain ⟨rA, rc, hr2⟩ := hk2.is
          clear HKp
          subst hr1
          obtain ⟨r2i, r2g, r2A, r2n, r2c, r2l⟩ := p2
          have HR2 := Lib.hid hr2
          clear hr2
          have HKa := Lib.hid hk1
          have HKb := Lib.hid hk2
          have HTn := Lib.hid (tnL_take HPk.out)
          rw [HEd.out] at HMp HTn
          have hki : (k : Int) < (ns : Int) := by omega
          have hk0 : (0 : Int) ≤ (k : Int) := by omega
          have HLm := Lib.hid (show m3 + 2 ≤ maxRg by
            have h1 := HJ.out.len
            have h2 := tnL_length ((qs.map edsS).take k)
            have h3 := tnL_length (Lst i L)
            have h4 : (Lst i L).length ≤ n := by
              unfold Lst
              split
              · exact Nat.zero_le _
              · rw [HLl.out]; exact Nat.le_refl _
            have h5 := HN9.out
            rw [List.length_append] at h1
            rw [List.length_take, List.length_map] at h2
            unfold maxRg
            omega)
          clear q0 q1 q2 q3 q4 q5 hp hPb hblk he1 he2 hk1 hk2
          cases e1 with
          | lo =>
            simp only [rb, cells6_eq] at HX HBx i0 i1 i2
            have HJ8 := Lib.hid (show TL w P B M ((tnL (Lst i L) ++ tnL ((qs.map edsS).take k)) ++ tnA .lo) A3 m3 c3 bs3 _ from by
              have := HJ.out.below HPB.out HBx.out
              simpa [tnA] using this)
            have HX8 := Lib.hid HX.out
            obtain ⟨y0, y1, y2, y3, y4, y5⟩ := HX.out.cells
            simp only at y0 y1 y2 i3 i4 i5
            go_upto_region 11 with fail
            clear HX HBx i0 i1 i2 i3 i4 i5
            generalize (wr.alloc (.cells #[.int .i64 (-1), .bool false, .slice none 0 0, .int .i64 r2i, .bool r2g, .slice r2A r2n r2c] 68)) = w8 at *
            have HNe := Lib.hid (HJ8.out.row.ne_box HX8.out)
            cases e2 with
            | lo =>
              obtain ⟨rfl, rfl, rfl, rfl, rfl, rfl⟩ : r2i = (rb (.lo) rA rc).i ∧ r2g = (rb (.lo) rA rc).g ∧ r2A = (rb (.lo) rA rc).A ∧ r2n = (rb (.lo) rA rc).n ∧ r2c = (rb (.lo) rA rc).c ∧ r2l = (rb (.lo) rA rc).l := by rw [← HR2.out]; exact ⟨rfl, rfl, rfl, rfl, rfl, rfl⟩
              simp only [rb] at y3 y4 y5
              go_wp2_with fail
              go_roundw
              case rel => exact ⟨k + 1, A3, m3, c3, bs3, by omega, by go_num, by go_num, Lib.hid (by
                rw [HTn.out]
                simpa [tnA, tnB, List.append_assoc] using HJ8.out)⟩
              case measure => simp [intOf]; omega
            | hi =>
              obtain ⟨rfl, rfl, rfl, rfl, rfl, rfl⟩ : r2i = (rb (.hi) rA rc).i ∧ r2g = (rb (.hi) rA rc).g ∧ r2A = (rb (.hi) rA rc).A ∧ r2n = (rb (.hi) rA rc).n ∧ r2c = (rb (.hi) rA rc).c ∧ r2l = (rb (.hi) rA rc).l := by rw [← HR2.out]; exact ⟨rfl, rfl, rfl, rfl, rfl, rfl⟩
              simp only [rb] at y3 y4 y5
              go_wp2_with fail
              go_roundw
              case rel => exact ⟨k + 1, A3, m3, c3, bs3, by omega, by go_num, by go_num, Lib.hid (by
                rw [HTn.out]
                simpa [tnA, tnB, List.append_assoc] using HJ8.out)⟩
              case measure => simp [intOf]; omega
            | num y =>
              obtain ⟨rfl, rfl, rfl, rfl, rfl, rfl⟩ : r2i = (rb (.num y) rA rc).i ∧ r2g = (rb (.num y) rA rc).g ∧ r2A = (rb (.num y) rA rc).A ∧ r2n = (rb (.num y) rA rc).n ∧ r2c = (rb (.num y) rA rc).c ∧ r2l = (rb (.num y) rA rc).l := by rw [← HR2.out]; exact ⟨rfl, rfl, rfl, rfl, rfl, rfl⟩
              simp only [rb] at y3 y4 y5 HX8
              have HSy := Lib.hid (show SlI w B r2A (digs 2 y.natAbs).length r2c (digs 2 y.natAbs) from HKb.out.lim.sl HPB.out)
              obtain ⟨yy, hy1⟩ : ∃ yy, y + on = yy := ⟨_, rfl⟩
              have HY1 := Lib.hid hy1
              have HYl := Lib.hid (show (digs 2 yy.natAbs).length ≤ M + 1 by rw [← hy1, HOn.out]; exact len2_up 1 (by decide) HMp.out.2)
              have HOl := Lib.hid (show (digs 2 on.natAbs).length ≤ 2000000000 by rw [HOn.out]; exact Nat.le_trans (digs_length_le (k := 1) (by decide) (by decide)) (by omega))
              clear hy1
              go_upto_region 12 with fail
              refine wp_region_HS (fun z => Below B w8 z ∧ z.heap[wr.heap.size]? = w8.heap[wr.heap.size]?) (by kernel_rfl) (fun z0 K0 hs0 => ?_)
              have S0 : Below B w8 z0 ∧ z0.heap[wr.heap.size]? = w8.heap[wr.heap.size]? := ⟨K0.mono HJ8.out.le, K0.block _ HX8.out.lt⟩
              refine tkH 0 (v := ?tv0_1) S0 rfl (by kernel_rfl) ?tq0_1 (by kernel_rfl) (fun z5 hS => ?ty0_1) ?_
              case ty0_1 => go_simp; rfl
              case tq0_1 => exact fun _ _ _ h => h
              refine tkH 1 (v := ?tv1_2) S0 rfl (by kernel_rfl) ?tq1_2 (by kernel_rfl) (fun z5 hS => ?ty1_2) ?_
              case ty1_2 => go_simp; rfl
              case tq1_2 => exact fun _ _ _ h => h
              refine tkH 2 (v := ?tv2_3) S0 rfl (by kernel_rfl) ?tq2_3 (by kernel_rfl) (fun z5 hS => ?ty2_3) ?_
              case ty2_3 => go_simp; rfl
              case tq2_3 => exact fun _ _ _ h => h
              refine tkH 3 (v := ?tv3_4) S0 rfl (by kernel_rfl) ?tq3_4 (by kernel_rfl) (fun z5 hS => ?ty3_4) ?_
              case ty3_4 => obtain ⟨q0, q1, q2, q3, q4, q5⟩ := (show SBox z5 wr.heap.size _ from hS.2.trans HX8.out).cells; go_simp; rfl
              case tq3_4 => exact fun _ _ _ h => h
              refine wpAnyH_one (i := 4) (by kernel_rfl) rfl (by kernel_rfl) (fun K hK => ?_)
              go_simp
              (with_reducible refine (HF1.out _).mono ?_)
              rintro e z1 ⟨v, he, hr1, hb1⟩
              obtain ⟨A5, c5, rfl, ho5⟩ := hr1.at_
              subst he
              have K1 := K0.trans (hb1.mono K0.size)
              have S1 : Below B w8 z1 ∧ z1.heap[wr.heap.size]? = w8.heap[wr.heap.size]? := ⟨K1.mono HJ8.out.le, K1.block _ HX8.out.lt⟩
              have hs5 : SlI z1 z1.heap.size A5 (digs 2 on.natAbs).length c5 (digs 2 on.natAbs) := (show LimB z1 (Fr z0.heap.size z1) A5 (digs 2 on.natAbs).length c5 (digs 2 on.natAbs) from ho5).sl (fun b hb => hb.2)
              refine hK.out _ _ S1 ?_
              refine wpAnyH_one (i := 5) (by kernel_rfl) rfl (by kernel_rfl) (fun K hK => ?_)
              go_simp
              (with_reducible refine (rsum_dd (z := yy) (HSy.out.below (HJ8.out.bel.trans S1.1) (Nat.le_refl _)) hs5 (Nat.le_trans HMp.out.2 (by have := HMs.out.2; omega)) HOl.out (Nat.le_trans HJ8.out.le K1.size) (Nat.le_refl _) HY1.out).mono ?_)
              rintro e z2 ⟨v, he, hr2, hb2⟩
              obtain ⟨A6, c6, rfl, ho6⟩ := hr2.at_
              subst he
              have K2 := K1.trans (hb2.mono K1.size)
              have S2 : Below B w8 z2 ∧ z2.heap[wr.heap.size]? = w8.heap[wr.heap.size]? := ⟨K2.mono HJ8.out.le, K2.block _ HX8.out.lt⟩
              refine hK.out _ _ S2 ?_
              refine wpAnyH_one (i := 6) (by kernel_rfl) rfl (by kernel_rfl) (fun K hK => ?_)
              go_simp
              have hz2 := K2.size
              have hz1 := K1.size
              have hle := HJ8.out.le
              have S3 : Below B w8 (z2.alloc (.cells #[.bool (decide (yy < 0)), .slice A6 (digs 2 yy.natAbs).length c6] 63)) ∧ (z2.alloc (.cells #[.bool (decide (yy < 0)), .slice A6 (digs 2 yy.natAbs).length c6] 63)).heap[wr.heap.size]? = w8.heap[wr.heap.size]? := ⟨S2.1.alloc (by omega) _, (((Below.refl z2.heap.size z2).alloc (Nat.le_refl _) _).block _ (by have := HX8.out.lt; omega)).trans S2.2⟩
              refine hK.out _ _ S3 ?_
              refine wpAnyH_one (i := 7) (by kernel_rfl) rfl (by kernel_rfl) (fun K hK => ?_)
              have HR7 := Lib.hid (HJ8.out.below HPB.out K2)
              refine step_app1PB (q := ⟨yy, A6, c6⟩) rfl _ _ rfl (by rfl) (by rfl) HR7.out.row HR7.out.le HPB.out (ho6.keep (fun b hb => ⟨⟨.inr ⟨by have := hb.1; omega, hb.2⟩, HJ8.out.row.ne_old (.inr (by have := hb.1; omega))⟩, rfl⟩)) (by have := HLm.out; unfold maxRg at *; omega) ?_
              intro A7 c7 w9 hr9 hb9 hs9 hx9
              have HJ9 := Lib.hid (HR7.out.add hb9 hs9 hr9 HYl.out)
              have HS9 := Lib.hid (show Below B w8 w9 ∧ w9.heap[wr.heap.size]? = w8.heap[wr.heap.size]? from ⟨S2.1.trans hb9, (hx9 _ (by have := HX8.out.lt; omega) HNe.out).trans S2.2⟩)
              refine hK.out _ _ HS9.out ?_
              clear hs5 K0 K1 K2 S0 S1 S2 S3 hb1 hb2 hb9 hs9 hr9 hx9 ho5 ho6 hr1 hr2 hs0 hz1 hz2 hle
              refine wpAnyH_one (i := 8) (by kernel_rfl) rfl (by kernel_rfl) (fun K hK => ?_)
              go_simp
              refine hK.out _ _ HS9.out ?_
              refine wpAnyH_end (by kernel_rfl) ?_ _
              go_wp2_with fail
              go_roundw
              case rel => exact ⟨k + 1, A7, _, c7, _, by omega, by go_num, by go_num, Lib.hid (by
                rw [HTn.out, tnB, ← HOn.out, HY1.out, ← List.append_assoc, ← List.append_assoc]
                exact HJ9.out)⟩
              case measure => simp [intOf]; omega
          | num x =>
            simp only [rb, cells6_eq] at HX HBx i0 i1 i2
            have HNe7 := Lib.hid (HJ.out.row.ne_old (.inr (Nat.le_refl wr.heap.size)))
            have HJ7 := Lib.hid (HJ.out.below HPB.out HBx.out)
            have HX7 := Lib.hid HX.out
            obtain ⟨y0, y1, y2, y3, y4, y5⟩ := HX.out.cells
            simp only at y0 y1 y2 i3 i4 i5
            have hx7 := HX7.out.lt
            go_upto_region 10 with fail
            clear HX HBx i0 i1 i2 i3 i4 i5
            generalize (wr.alloc (.cells #[.int .i64 0, .bool (decide (x < 0)), .slice pA (digs 2 x.natAbs).length pc, .int .i64 r2i, .bool r2g, .slice r2A r2n r2c] 68)) = w7 at *
            have HQ7 := Lib.hid (show Bg.At w7 (fun b => Or P B w7 b ∧ (Value.slice A3 m3 c3).ownBlock ≠ some b) ⟨x, pA, pc⟩ from LimB.keep (show LimB w P pA (digs 2 x.natAbs).length pc (digs 2 x.natAbs) from HKa.out.lim) (fun b hb => ⟨⟨.inl hb, HJ.out.row.ne_old (.inl (HPB.out b hb))⟩, HJ7.out.bel.block b (HPB.out b hb)⟩))
            go_upto_region 11 with (at_builtin; refine wpList_app1PB (q := ⟨x, pA, pc⟩) rfl _ _ rfl rfl rfl HJ7.out.row HJ7.out.le HPB.out HQ7.out (by have := HLm.out; unfold maxRg at *; omega) ?_; intro A4 c4 w8 hr8 hb8 hs8 hx8; have HJ8 := Lib.hid (HJ7.out.add hb8 hs8 hr8 (Nat.le_trans HMp.out.1 (Nat.le_succ _))); have HX8 := Lib.hid (show SBox w8 wr.heap.size _ from (hx8 _ HX7.out.lt HNe7.out).trans HX7.out); clear y0 y1 y2 y3 y4 y5 hr8 hb8 hs8 hx8; obtain ⟨y0, y1, y2, y3, y4, y5⟩ := HX8.out.cells; simp only at y0 y1 y2)
            have HNe := Lib.hid (HJ8.out.row.ne_box HX8.out)
            cases e2 with
            | lo =>
              obtain ⟨rfl, rfl, rfl, rfl, rfl, rfl⟩ : r2i = (rb (.lo) rA rc).i ∧ r2g = (rb (.lo) rA rc).g ∧ r2A = (rb (.lo) rA rc).A ∧ r2n = (rb (.lo) rA rc).n ∧ r2c = (rb (.lo) rA rc).c ∧ r2l = (rb (.lo) rA rc).l := by rw [← HR2.out]; exact ⟨rfl, rfl, rfl, rfl, rfl, rfl⟩
              simp only [rb] at y3 y4 y5
              go_wp2_with fail
              go_roundw
              case rel => exact ⟨k + 1, A4, (m3 + 1), c4, _, by omega, by go_num, by go_num, Lib.hid (by
                rw [HTn.out]
                simpa [tnA, tnB, List.append_assoc] using HJ8.out)⟩
              case measure => simp [intOf]; omega
            | hi =>
              obtain ⟨rfl, rfl, rfl, rfl, rfl, rfl⟩ : r2i = (rb (.hi) rA rc).i ∧ r2g = (rb (.hi) rA rc).g ∧ r2A = (rb (.hi) rA rc).A ∧ r2n = (rb (.hi) rA rc).n ∧ r2c = (rb (.hi) rA rc).c ∧ r2l = (rb (.hi) rA rc).l := by rw [← HR2.out]; exact ⟨rfl, rfl, rfl, rfl, rfl, rfl⟩
              simp only [rb] at y3 y4 y5
              go_wp2_with fail
              go_roundw
              case rel => exact ⟨k + 1, A4, (m3 + 1), c4, _, by omega, by go_num, by go_num, Lib.hid (by
                rw [HTn.out]
                simpa [tnA, tnB, List.append_assoc] using HJ8.out)⟩
              case measure => simp [intOf]; omega
            | num y =>
              obtain ⟨rfl, rfl, rfl, rfl, rfl, rfl⟩ : r2i = (rb (.num y) rA rc).i ∧ r2g = (rb (.num y) rA rc).g ∧ r2A = (rb (.num y) rA rc).A ∧ r2n = (rb (.num y) rA rc).n ∧ r2c = (rb (.num y) rA rc).c ∧ r2l = (rb (.num y) rA rc).l := by rw [← HR2.out]; exact ⟨rfl, rfl, rfl, rfl, rfl, rfl⟩
              simp only [rb] at y3 y4 y5 HX8
              have HSy := Lib.hid (show SlI w B r2A (digs 2 y.natAbs).length r2c (digs 2 y.natAbs) from HKb.out.lim.sl HPB.out)
              obtain ⟨yy, hy1⟩ : ∃ yy, y + on = yy := ⟨_, rfl⟩
              have HY1 := Lib.hid hy1
              have HYl := Lib.hid (show (digs 2 yy.natAbs).length ≤ M + 1 by rw [← hy1, HOn.out]; exact len2_up 1 (by decide) HMp.out.2)
              have HOl := Lib.hid (show (digs 2 on.natAbs).length ≤ 2000000000 by rw [HOn.out]; exact Nat.le_trans (digs_length_le (k := 1) (by decide) (by decide)) (by omega))
              clear hy1
              go_upto_region 12 with fail
              refine wp_region_HS (fun z => Below B w8 z ∧ z.heap[wr.heap.size]? = w8.heap[wr.heap.size]?) (by kernel_rfl) (fun z0 K0 hs0 => ?_)
              have S0 : Below B w8 z0 ∧ z0.heap[wr.heap.size]? = w8.heap[wr.heap.size]? := ⟨K0.mono HJ8.out.le, K0.block _ HX8.out.lt⟩
              refine tkH 0 (v := ?tv0_5) S0 rfl (by kernel_rfl) ?tq0_5 (by kernel_rfl) (fun z5 hS => ?ty0_5) ?_
              case ty0_5 => go_simp; rfl
              case tq0_5 => exact fun _ _ _ h => h
              refine tkH 1 (v := ?tv1_6) S0 rfl (by kernel_rfl) ?tq1_6 (by kernel_rfl) (fun z5 hS => ?ty1_6) ?_
              case ty1_6 => go_simp; rfl
              case tq1_6 => exact fun _ _ _ h => h
              refine tkH 2 (v := ?tv2_7) S0 rfl (by kernel_rfl) ?tq2_7 (by kernel_rfl) (fun z5 hS => ?ty2_7) ?_
              case ty2_7 => go_simp; rfl
              case tq2_7 => exact fun _ _ _ h => h
              refine tkH 3 (v := ?tv3_8) S0 rfl (by kernel_rfl) ?tq3_8 (by kernel_rfl) (fun z5 hS => ?ty3_8) ?_
              case ty3_8 => obtain ⟨q0, q1, q2, q3, q4, q5⟩ := (show SBox z5 wr.heap.size _ from hS.2.trans HX8.out).cells; go_simp; rfl
              case tq3_8 => exact fun _ _ _ h => h
              refine wpAnyH_one (i := 4) (by kernel_rfl) rfl (by kernel_rfl) (fun K hK => ?_)
              go_simp
              (with_reducible refine (HF1.out _).mono ?_)
              rintro e z1 ⟨v, he, hr1, hb1⟩
              obtain ⟨A5, c5, rfl, ho5⟩ := hr1.at_
              subst he
              have K1 := K0.trans (hb1.mono K0.size)
              have S1 : Below B w8 z1 ∧ z1.heap[wr.heap.size]? = w8.heap[wr.heap.size]? := ⟨K1.mono HJ8.out.le, K1.block _ HX8.out.lt⟩
              have hs5 : SlI z1 z1.heap.size A5 (digs 2 on.natAbs).length c5 (digs 2 on.natAbs) := (show LimB z1 (Fr z0.heap.size z1) A5 (digs 2 on.natAbs).length c5 (digs 2 on.natAbs) from ho5).sl (fun b hb => hb.2)
              refine hK.out _ _ S1 ?_
              refine wpAnyH_one (i := 5) (by kernel_rfl) rfl (by kernel_rfl) (fun K hK => ?_)
              go_simp
              (with_reducible refine (rsum_dd (z := yy) (HSy.out.below (HJ8.out.bel.trans S1.1) (Nat.le_refl _)) hs5 (Nat.le_trans HMp.out.2 (by have := HMs.out.2; omega)) HOl.out (Nat.le_trans HJ8.out.le K1.size) (Nat.le_refl _) HY1.out).mono ?_)
              rintro e z2 ⟨v, he, hr2, hb2⟩
              obtain ⟨A6, c6, rfl, ho6⟩ := hr2.at_
              subst he
              have K2 := K1.trans (hb2.mono K1.size)
              have S2 : Below B w8 z2 ∧ z2.heap[wr.heap.size]? = w8.heap[wr.heap.size]? := ⟨K2.mono HJ8.out.le, K2.block _ HX8.out.lt⟩
              refine hK.out _ _ S2 ?_
              refine wpAnyH_one (i := 6) (by kernel_rfl) rfl (by kernel_rfl) (fun K hK => ?_)
              go_simp
              have hz2 := K2.size
              have hz1 := K1.size
              have hle := HJ8.out.le
              have S3 : Below B w8 (z2.alloc (.cells #[.bool (decide (yy < 0)), .slice A6 (digs 2 yy.natAbs).length c6] 63)) ∧ (z2.alloc (.cells #[.bool (decide (yy < 0)), .slice A6 (digs 2 yy.natAbs).length c6] 63)).heap[wr.heap.size]? = w8.heap[wr.heap.size]? := ⟨S2.1.alloc (by omega) _, (((Below.refl z2.heap.size z2).alloc (Nat.le_refl _) _).block _ (by have := HX8.out.lt; omega)).trans S2.2⟩
              refine hK.out _ _ S3 ?_
              refine wpAnyH_one (i := 7) (by kernel_rfl) rfl (by kernel_rfl) (fun K hK => ?_)
              have HR7 := Lib.hid (HJ8.out.below HPB.out K2)
              refine step_app1PB (q := ⟨yy, A6, c6⟩) rfl _ _ rfl (by rfl) (by rfl) HR7.out.row HR7.out.le HPB.out (ho6.keep (fun b hb => ⟨⟨.inr ⟨by have := hb.1; omega, hb.2⟩, HJ8.out.row.ne_old (.inr (by have := hb.1; omega))⟩, rfl⟩)) (by have := HLm.out; unfold maxRg at *; omega) ?_
              intro A7 c7 w9 hr9 hb9 hs9 hx9
              have HJ9 := Lib.hid (HR7.out.add hb9 hs9 hr9 HYl.out)
              have HS9 := Lib.hid (show Below B w8 w9 ∧ w9.heap[wr.heap.size]? = w8.heap[wr.heap.size]? from ⟨S2.1.trans hb9, (hx9 _ (by have := HX8.out.lt; omega) HNe.out).trans S2.2⟩)
              refine hK.out _ _ HS9.out ?_
              clear hs5 K0 K1 K2 S0 S1 S2 S3 hb1 hb2 hb9 hs9 hr9 hx9 ho5 ho6 hr1 hr2 hs0 hz1 hz2 hle
              refine wpAnyH_one (i := 8) (by kernel_rfl) rfl (by kernel_rfl) (fun K hK => ?_)
              go_simp
              refine hK.out _ _ HS9.out ?_
              refine wpAnyH_end (by kernel_rfl) ?_ _
              go_wp2_with fail
              go_roundw
              case rel => exact ⟨k + 1, A7, _, c7, _, by omega, by go_num, by go_num, Lib.hid (by
                rw [HTn.out, tnB, ← HOn.out, HY1.out, ← List.append_assoc, ← List.append_assoc]
                exact HJ9.out)⟩
              case measure => simp [intOf]; omega
          | hi =>
            simp only [rb, cells6_eq] at HX HBx i0 i1 i2
            have HJ8 := Lib.hid (show TL w P B M ((tnL (Lst i L) ++ tnL ((qs.map edsS).take k)) ++ tnA .hi) A3 m3 c3 bs3 _ from by
              have := HJ.out.below HPB.out HBx.out
              simpa [tnA] using this)
            have HX8 := Lib.hid HX.out
            obtain ⟨y0, y1, y2, y3, y4, y5⟩ := HX.out.cells
            simp only at y0 y1 y2 i3 i4 i5
            go_upto_region 11 with fail
            clear HX HBx i0 i1 i2 i3 i4 i5
            generalize (wr.alloc (.cells #[.int .i64 1, .bool false, .slice none 0 0, .int .i64 r2i, .bool r2g, .slice r2A r2n r2c] 68)) = w8 at *
            have HNe := Lib.hid (HJ8.out.row.ne_box HX8.out)
            cases e2 with
            | lo =>
              obtain ⟨rfl, rfl, rfl, rfl, rfl, rfl⟩ : r2i = (rb (.lo) rA rc).i ∧ r2g = (rb (.lo) rA rc).g ∧ r2A = (rb (.lo) rA rc).A ∧ r2n = (rb (.lo) rA rc).n ∧ r2c = (rb (.lo) rA rc).c ∧ r2l = (rb (.lo) rA rc).l := by rw [← HR2.out]; exact ⟨rfl, rfl, rfl, rfl, rfl, rfl⟩
              simp only [rb] at y3 y4 y5
              go_wp2_with fail
              go_roundw
              case rel => exact ⟨k + 1, A3, m3, c3, bs3, by omega, by go_num, by go_num, Lib.hid (by
                rw [HTn.out]
                simpa [tnA, tnB, List.append_assoc] using HJ8.out)⟩
              case measure => simp [intOf]; omega
            | hi =>
              obtain ⟨rfl, rfl, rfl, rfl, rfl, rfl⟩ : r2i = (rb (.hi) rA rc).i ∧ r2g = (rb (.hi) rA rc).g ∧ r2A = (rb (.hi) rA rc).A ∧ r2n = (rb (.hi) rA rc).n ∧ r2c = (rb (.hi) rA rc).c ∧ r2l = (rb (.hi) rA rc).l := by rw [← HR2.out]; exact ⟨rfl, rfl, rfl, rfl, rfl, rfl⟩
              simp only [rb] at y3 y4 y5
              go_wp2_with fail
              go_roundw
              case rel => exact ⟨k + 1, A3, m3, c3, bs3, by omega, by go_num, by go_num, Lib.hid (by
                rw [HTn.out]
                simpa [tnA, tnB, List.append_assoc] using HJ8.out)⟩
              case measure => simp [intOf]; omega
            | num y =>
              obtain ⟨rfl, rfl, rfl, rfl, rfl, rfl⟩ : r2i = (rb (.num y) rA rc).i ∧ r2g = (rb (.num y) rA rc).g ∧ r2A = (rb (.num y) rA rc).A ∧ r2n = (rb (.num y) rA rc).n ∧ r2c = (rb (.num y) rA rc).c ∧ r2l = (rb (.num y) rA rc).l := by rw [← HR2.out]; exact ⟨rfl, rfl, rfl, rfl, rfl, rfl⟩
              simp only [rb] at y3 y4 y5 HX8
              have HSy := Lib.hid (show SlI w B r2A (digs 2 y.natAbs).length r2c (digs 2 y.natAbs) from HKb.out.lim.sl HPB.out)
              obtain ⟨yy, hy1⟩ : ∃ yy, y + on = yy := ⟨_, rfl⟩
              have HY1 := Lib.hid hy1
              have HYl := Lib.hid (show (digs 2 yy.natAbs).length ≤ M + 1 by rw [← hy1, HOn.out]; exact len2_up 1 (by decide) HMp.out.2)
              have HOl := Lib.hid (show (digs 2 on.natAbs).length ≤ 2000000000 by rw [HOn.out]; exact Nat.le_trans (digs_length_le (k := 1) (by decide) (by decide)) (by omega))
              clear hy1
              go_upto_region 12 with fail
              refine wp_region_HS (fun z => Below B w8 z ∧ z.heap[wr.heap.size]? = w8.heap[wr.heap.size]?) (by kernel_rfl) (fun z0 K0 hs0 => ?_)
              have S0 : Below B w8 z0 ∧ z0.heap[wr.heap.size]? = w8.heap[wr.heap.size]? := ⟨K0.mono HJ8.out.le, K0.block _ HX8.out.lt⟩
              refine tkH 0 (v := ?tv0_9) S0 rfl (by kernel_rfl) ?tq0_9 (by kernel_rfl) (fun z5 hS => ?ty0_9) ?_
              case ty0_9 => go_simp; rfl
              case tq0_9 => exact fun _ _ _ h => h
              refine tkH 1 (v := ?tv1_10) S0 rfl (by kernel_rfl) ?tq1_10 (by kernel_rfl) (fun z5 hS => ?ty1_10) ?_
              case ty1_10 => go_simp; rfl
              case tq1_10 => exact fun _ _ _ h => h
              refine tkH 2 (v := ?tv2_11) S0 rfl (by kernel_rfl) ?tq2_11 (by kernel_rfl) (fun z5 hS => ?ty2_11) ?_
              case ty2_11 => go_simp; rfl
              case tq2_11 => exact fun _ _ _ h => h
              refine tkH 3 (v := ?tv3_12) S0 rfl (by kernel_rfl) ?tq3_12 (by kernel_rfl) (fun z5 hS => ?ty3_12) ?_
              case ty3_12 => obtain ⟨q0, q1, q2, q3, q4, q5⟩ := (show SBox z5 wr.heap.size _ from hS.2.trans HX8.out).cells; go_simp; rfl
              case tq3_12 => exact fun _ _ _ h => h
              refine wpAnyH_one (i := 4) (by kernel_rfl) rfl (by kernel_rfl) (fun K hK => ?_)
              go_simp
              (with_reducible refine (HF1.out _).mono ?_)
              rintro e z1 ⟨v, he, hr1, hb1⟩
              obtain ⟨A5, c5, rfl, ho5⟩ := hr1.at_
              subst he
              have K1 := K0.trans (hb1.mono K0.size)
              have S1 : Below B w8 z1 ∧ z1.heap[wr.heap.size]? = w8.heap[wr.heap.size]? := ⟨K1.mono HJ8.out.le, K1.block _ HX8.out.lt⟩
              have hs5 : SlI z1 z1.heap.size A5 (digs 2 on.natAbs).length c5 (digs 2 on.natAbs) := (show LimB z1 (Fr z0.heap.size z1) A5 (digs 2 on.natAbs).length c5 (digs 2 on.natAbs) from ho5).sl (fun b hb => hb.2)
              refine hK.out _ _ S1 ?_
              refine wpAnyH_one (i := 5) (by kernel_rfl) rfl (by kernel_rfl) (fun K hK => ?_)
              go_simp
              (with_reducible refine (rsum_dd (z := yy) (HSy.out.below (HJ8.out.bel.trans S1.1) (Nat.le_refl _)) hs5 (Nat.le_trans HMp.out.2 (by have := HMs.out.2; omega)) HOl.out (Nat.le_trans HJ8.out.le K1.size) (Nat.le_refl _) HY1.out).mono ?_)
              rintro e z2 ⟨v, he, hr2, hb2⟩
              obtain ⟨A6, c6, rfl, ho6⟩ := hr2.at_
              subst he
              have K2 := K1.trans (hb2.mono K1.size)
              have S2 : Below B w8 z2 ∧ z2.heap[wr.heap.size]? = w8.heap[wr.heap.size]? := ⟨K2.mono HJ8.out.le, K2.block _ HX8.out.lt⟩
              refine hK.out _ _ S2 ?_
              refine wpAnyH_one (i := 6) (by kernel_rfl) rfl (by kernel_rfl) (fun K hK => ?_)
              go_simp
              have hz2 := K2.size
              have hz1 := K1.size
              have hle := HJ8.out.le
              have S3 : Below B w8 (z2.alloc (.cells #[.bool (decide (yy < 0)), .slice A6 (digs 2 yy.natAbs).length c6] 63)) ∧ (z2.alloc (.cells #[.bool (decide (yy < 0)), .slice A6 (digs 2 yy.natAbs).length c6] 63)).heap[wr.heap.size]? = w8.heap[wr.heap.size]? := ⟨S2.1.alloc (by omega) _, (((Below.refl z2.heap.size z2).alloc (Nat.le_refl _) _).block _ (by have := HX8.out.lt; omega)).trans S2.2⟩
              refine hK.out _ _ S3 ?_
              refine wpAnyH_one (i := 7) (by kernel_rfl) rfl (by kernel_rfl) (fun K hK => ?_)
              have HR7 := Lib.hid (HJ8.out.below HPB.out K2)
              refine step_app1PB (q := ⟨yy, A6, c6⟩) rfl _ _ rfl (by rfl) (by rfl) HR7.out.row HR7.out.le HPB.out (ho6.keep (fun b hb => ⟨⟨.inr ⟨by have := hb.1; omega, hb.2⟩, HJ8.out.row.ne_old (.inr (by have := hb.1; omega))⟩, rfl⟩)) (by have := HLm.out; unfold maxRg at *; omega) ?_
              intro A7 c7 w9 hr9 hb9 hs9 hx9
              have HJ9 := Lib.hid (HR7.out.add hb9 hs9 hr9 HYl.out)
              have HS9 := Lib.hid (show Below B w8 w9 ∧ w9.heap[wr.heap.size]? = w8.heap[wr.heap.size]? from ⟨S2.1.trans hb9, (hx9 _ (by have := HX8.out.lt; omega) HNe.out).trans S2.2⟩)
              refine hK.out _ _ HS9.out ?_
              clear hs5 K0 K1 K2 S0 S1 S2 S3 hb1 hb2 hb9 hs9 hr9 hx9 ho5 ho6 hr1 hr2 hs0 hz1 hz2 hle
              refine wpAnyH_one (i := 8) (by kernel_rfl) rfl (by kernel_rfl) (fun K hK => ?_)
              go_simp
              refine hK.out _ _ HS9.out ?_
              refine wpAnyH_end (by kernel_rfl) ?_ _
              go_wp2_with fail
              go_roundw
              case rel => exact ⟨k + 1, A7, _, c7, _, by omega, by go_num, by go_num, Lib.hid (by
                rw [HTn.out, tnB, ← HOn.out, HY1.out, ← List.append_assoc, ← List.append_assoc]
                exact HJ9.out)⟩
              case measure => simp [intOf]; omega
        · have hkk : k = ns := by omega
          have hki : ¬ (k : Int) < (ns : Int) := by omega
          have HJe := Lib.hid (show TL w P B M (tnL (Lst (i + 1) L)) A3 m3 c3 bs3 wr from by
            have h1 := HJ.out
            rw [List.take_of_length_le (by rw [List.length_map, HQl.out]; omega), ← tnL_append, ← HNx.out] at h1
            exact h1)
          go_wp2_with fail
          go_roundw
          case rel => exact ⟨i + 1, A3, m3, c3, bs3, by omega, by go_num, by go_num, HJe⟩
          case measure => simp [intOf]; omega
    · have hii : i = 2 := by omega
      subst hii
      have HT := Lib.hid (show TL w P B M (tnL L) A2 m c2 bs wr from HI.out)
      have HMl := Lib.hid HT.out.len
      clear HI hi hi2 HSets
      generalize wr = wo at *
      go_wp2_with fail
      obtain ⟨Z, hZ⟩ : ∃ Z, tnL L = Z := ⟨_, rfl⟩
      have HZ := Lib.hid hZ
      rw [hZ] at HT HMl
      obtain ⟨C, hC⟩ : ∃ C, wo.heap.size = C := ⟨_, rfl⟩
      have HC := Lib.hid hC
      have HO0 := Lib.hid (show OL wo C M Z 0 none 0 0 [] wo from ⟨Below.refl _ _, by omega, BRow.nil _ _ _, List.Pairwise.nil, fun x => by simp, fun b hb => (by cases hb), Nat.le_refl _⟩)
      have hcapl := HT.out.row.cap
      have hmaxl := hcapl.2
      unfold maxLen at hmaxl
      clear hZ hC
      go_loopw [7, 8] (fun vo vi wr => ∃ i A' n' c' os, i ≤ m ∧ vi = .int .i64 (i : Nat) ∧ vo = .slice A' n' c' ∧ Hid (OL wo C M Z i A' n' c' os wr)) (fun _ vi _ => m - (intOf vi).toNat)
      case atStart => exact ⟨0, none, 0, 0, [], Nat.zero_le _, rfl, rfl, HO0⟩
      case round =>
        obtain ⟨i, A3, n3, c3, os, hi, rfl, rfl, HI⟩ := hrel
        clear HO0
        by_cases him : i < m
        · obtain ⟨q, hq⟩ : ∃ q, bs[i]? = some q := ⟨bs[i]'(by have := HT.out.row.len; omega), by simp⟩
          obtain ⟨gl, rfl, hgl1, hgl2, _⟩ := HT.out.row.some_ (by omega)
          obtain ⟨l0, l1⟩ := HT.out.row.cells_at hq
          have hglC : gl < C := by have := HC.out; omega
          have HLc := Lib.hid (fun (z : World) (hz : Below C wo z) (j : Nat) => (World.cell?_of_block (a := ⟨gl, j, none⟩) (hz.block gl hglC)))
          have HLv := Lib.hid (And.intro l0 l1)
          have HKq := Lib.hid (show LimB wo (fun b => Or P B wo b ∧ (Value.slice (some ⟨gl, 0, none⟩) m c2).ownBlock ≠ some b) q.A (digs 2 q.z.natAbs).length q.c (digs 2 q.z.natAbs) from HT.out.row.kid q (List.mem_of_getElem? hq))
          have HSq := Lib.hid (HT.out.sz q (List.mem_of_getElem? hq))
          have HZi := Lib.hid (show Z[i]? = some q.z by rw [← HT.out.val, List.getElem?_map, hq]; rfl)
          obtain ⟨qz, qA, qc⟩ := q
          have HQs := Lib.hid (show SlI wo C qA (digs 2 qz.natAbs).length qc (digs 2 qz.natAbs) from (show LimB wo _ qA (digs 2 qz.natAbs).length qc (digs 2 qz.natAbs) from HKq.out).sl (fun b hb => by
            have h1 := HC.out
            rcases hb.1 with h2 | h2
            · have := HPB.out b h2; have := HT.out.le; omega
            · have := h2.2; omega))
          have hii : (i : Int) < (m : Int) := by omega
          have hi0 : (0 : Int) ≤ (i : Int) := by omega
          have hcapo := HI.out.row.cap
          have hmaxo := hcapo.2
          unfold maxLen at hmaxo
          simp only at l0 l1
          clear hq l0 l1
          generalize wr = wq at *
          go_wp2_with fail
          go_loopw [9] (fun vk wr => ∃ k, k ≤ n3 ∧ vk = .int .i64 (k : Nat) ∧ Hid (OL wo C M Z i A3 n3 c3 os wr ∧ ∀ x ∈ (os.map Bg.z).take k, x < qz)) (fun vk _ => n3 - (intOf vk).toNat)
          case atStart => exact ⟨0, Nat.zero_le _, rfl, Lib.hid ⟨HI.out, fun x hx => by simp at hx⟩⟩
          case round =>
            obtain ⟨k, hk, rfl, HJ⟩ := hrel
            have hk0 : (0 : Int) ≤ (k : Int) := by omega
            by_cases hkn : k < n3
            · have hki : (k : Int) < (n3 : Int) := by omega
              obtain ⟨r, hr⟩ : ∃ r, os[k]? = some r := ⟨os[k]'(by have := HJ.out.1.row.len; omega), by simp⟩
              obtain ⟨go, rfl, hgo1, hgo2, _⟩ := HJ.out.1.row.some_ (by omega)
              obtain ⟨o0, o1⟩ := HJ.out.1.row.cells_at hr
              have HKr := Lib.hid (HJ.out.1.row.kid r (List.mem_of_getElem? hr))
              have HSr := Lib.hid (HJ.out.1.sz r (List.mem_of_getElem? hr))
              have HRz := Lib.hid (show (os.map Bg.z)[k]? = some r.z by rw [List.getElem?_map, hr]; rfl)
              have HOv := Lib.hid (And.intro o0 o1)
              obtain ⟨rz, rA, rc⟩ := r
              have HRs := Lib.hid (show SlI wr wr.heap.size rA (digs 2 rz.natAbs).length rc (digs 2 rz.natAbs) from (show LimB wr _ rA (digs 2 rz.natAbs).length rc (digs 2 rz.natAbs) from HKr.out).sl (fun b hb => by
                have h1 := HJ.out.1.le
                rcases hb.1 with h2 | h2
                · have : b < C := h2; omega
                · exact h2.2))
              have HCm := Lib.hid (fun (z : World) (hz : Below wr.heap.size wr z) => rcmp_any (w := z) (HRs.out.below hz (Nat.le_refl _)) (HQs.out.below (HJ.out.1.bel.trans (hz.mono HJ.out.1.le)) (Nat.le_refl _)) hz.size (Nat.le_trans HJ.out.1.le hz.size) (Nat.le_trans HSr.out (by have := HMs.out.2; omega)) (Nat.le_trans HSq.out (by have := HMs.out.2; omega)) rfl)
              clear hr HKr o0 o1
              rcases (by omega : rz < qz ∨ rz = qz ∨ qz < rz) with hc | hc | hc
              · have HCm18 := Lib.hid HCm.out
                go_upto_region 18 with fail
                refine wp_region_H (by kernel_rfl) (fun z0 K0 hs0 => ?_)
                refine tkH 0 (v := ?tv0_13) K0 rfl (by kernel_rfl) ?tq0_13 (by kernel_rfl) (fun z5 hS => ?ty0_13) ?_
                case ty0_13 => go_simp; rfl
                case tq0_13 => exact fun _ _ _ h => h
                refine tkH 1 (v := ?tv1_14) K0 rfl (by kernel_rfl) ?tq1_14 (by kernel_rfl) (fun z5 hS => ?ty1_14) ?_
                case ty1_14 => go_simp; rfl
                case tq1_14 => exact fun _ _ _ h => h
                refine tkH 2 (v := ?tv2_15) K0 rfl (by kernel_rfl) ?tq2_15 (by kernel_rfl) (fun z5 hS => ?ty2_15) ?_
                case ty2_15 => go_simp; rfl
                case tq2_15 => exact fun _ _ _ h => h
                refine tkH 3 (v := ?tv3_16) K0 rfl (by kernel_rfl) ?tq3_16 (by kernel_rfl) (fun z5 hS => ?ty3_16) ?_
                case ty3_16 => go_simp; rfl
                case tq3_16 => exact fun _ _ _ h => h
                refine tkH 4 (v := ?tv4_17) K0 rfl (by kernel_rfl) ?tq4_17 (by kernel_rfl) (fun z5 hS => ?ty4_17) ?_
                case ty4_17 => go_simp; rfl
                case tq4_17 => exact fun _ _ _ h => h
                refine tkH 5 (v := ?tv5_18) K0 rfl (by kernel_rfl) ?tq5_18 (by kernel_rfl) (fun z5 hS => ?ty5_18) ?_
                case ty5_18 => go_simp; rfl
                case tq5_18 => exact fun _ _ _ h => h
                refine tkH 6 (v := ?tv6_19) K0 rfl (by kernel_rfl) ?tq6_19 (by kernel_rfl) (fun z5 hS => ?ty6_19) ?_
                case ty6_19 => go_simp; rfl
                case tq6_19 => exact fun _ _ _ h => h
                refine tkH 7 (v := ?tv7_20) K0 rfl (by kernel_rfl) ?tq7_20 (by kernel_rfl) (fun z5 hS => ?ty7_20) ?_
                case ty7_20 => go_simp; rfl
                case tq7_20 => exact fun _ _ _ h => h
                refine tkH 8 (v := ?tv8_21) K0 rfl (by kernel_rfl) ?tq8_21 (by kernel_rfl) (fun z5 hS => ?ty8_21) ?_
                case ty8_21 => have g0 := (World.cell?_of_block (a := ⟨go, k * 2, none⟩) (hS.block go hgo2)).trans HOv.out.1; have g1 := (World.cell?_of_block (a := ⟨go, k * 2 + 1, none⟩) (hS.block go hgo2)).trans HOv.out.2; (try simp only at g0 g1); go_simp; rfl
                case tq8_21 => exact fun _ _ _ h => h
                refine tkH 9 (v := ?tv9_22) K0 rfl (by kernel_rfl) ?tq9_22 (by kernel_rfl) (fun z5 hS => ?ty9_22) ?_
                case ty9_22 => go_simp; rfl
                case tq9_22 => exact fun _ _ _ h => h
                refine tkH 10 (v := ?tv10_23) K0 rfl (by kernel_rfl) ?tq10_23 (by kernel_rfl) (fun z5 hS => ?ty10_23) ?_
                case ty10_23 => go_simp; rfl
                case tq10_23 => exact fun _ _ _ h => h
                refine tkH 11 (v := ?tv11_24) K0 rfl (by kernel_rfl) ?tq11_24 (by kernel_rfl) (fun z5 hS => ?ty11_24) ?_
                case ty11_24 => go_simp; rfl
                case tq11_24 => exact fun _ _ _ h => h
                refine tkH 12 (v := ?tv12_25) K0 rfl (by kernel_rfl) ?tq12_25 (by kernel_rfl) (fun z5 hS => ?ty12_25) ?_
                case ty12_25 => have g0 := (HLc.out z5 (HJ.out.1.bel.trans (hS.mono HJ.out.1.le)) (i * 2)).trans HLv.out.1; have g1 := (HLc.out z5 (HJ.out.1.bel.trans (hS.mono HJ.out.1.le)) (i * 2 + 1)).trans HLv.out.2; (try simp only at g0 g1); go_simp; rfl
                case tq12_25 => exact fun _ _ _ h => h
                refine wpAnyH_one (i := 13) (by kernel_rfl) rfl (by kernel_rfl) (fun K hK => ?_)
                go_simp
                (with_reducible refine (HCm18.out _ K0).mono ?_)
                rintro e z1 ⟨he, hb1⟩
                rw [cmpZ_lt hc] at he
                subst he
                have K1 := K0.trans (hb1.mono K0.size)
                refine hK.out _ _ K1 ?_
                refine tkH 14 (v := ?tv14_26) K1 rfl (by kernel_rfl) ?tq14_26 (by kernel_rfl) (fun z5 hS => ?ty14_26) ?_
                case ty14_26 => go_simp; rfl
                case tq14_26 => exact fun _ _ _ h => h
                refine wpAnyH_one (i := 15) (by kernel_rfl) rfl (by kernel_rfl) (fun K hK => ?_)
                go_simp
                refine hK.out _ _ K1 ?_
                refine wpAnyH_end (by kernel_rfl) ?_ _
                have HK1 := Lib.hid K1
                clear K0 K1 hb1 hs0
                go_wp2_with fail
                go_roundw
                case rel => exact ⟨k + 1, by omega, by go_num, Lib.hid ⟨HJ.out.1.below HK1.out, fun x hx => by
                  rw [List.take_add_one, HRz.out] at hx
                  rcases List.mem_append.1 hx with hx | hx
                  · exact HJ.out.2 x hx
                  · simp only [Option.toList, List.mem_singleton] at hx
                    rw [hx]
                    exact hc⟩⟩
                case measure => simp [intOf]; omega
              · subst hc
                have HCm18 := Lib.hid HCm.out
                go_upto_region 18 with fail
                refine wp_region_H (by kernel_rfl) (fun z0 K0 hs0 => ?_)
                refine tkH 0 (v := ?tv0_27) K0 rfl (by kernel_rfl) ?tq0_27 (by kernel_rfl) (fun z5 hS => ?ty0_27) ?_
                case ty0_27 => go_simp; rfl
                case tq0_27 => exact fun _ _ _ h => h
                refine tkH 1 (v := ?tv1_28) K0 rfl (by kernel_rfl) ?tq1_28 (by kernel_rfl) (fun z5 hS => ?ty1_28) ?_
                case ty1_28 => go_simp; rfl
                case tq1_28 => exact fun _ _ _ h => h
                refine tkH 2 (v := ?tv2_29) K0 rfl (by kernel_rfl) ?tq2_29 (by kernel_rfl) (fun z5 hS => ?ty2_29) ?_
                case ty2_29 => go_simp; rfl
                case tq2_29 => exact fun _ _ _ h => h
                refine tkH 3 (v := ?tv3_30) K0 rfl (by kernel_rfl) ?tq3_30 (by kernel_rfl) (fun z5 hS => ?ty3_30) ?_
                case ty3_30 => go_simp; rfl
                case tq3_30 => exact fun _ _ _ h => h
                refine tkH 4 (v := ?tv4_31) K0 rfl (by kernel_rfl) ?tq4_31 (by kernel_rfl) (fun z5 hS => ?ty4_31) ?_
                case ty4_31 => go_simp; rfl
                case tq4_31 => exact fun _ _ _ h => h
                refine tkH 5 (v := ?tv5_32) K0 rfl (by kernel_rfl) ?tq5_32 (by kernel_rfl) (fun z5 hS => ?ty5_32) ?_
                case ty5_32 => go_simp; rfl
                case tq5_32 => exact fun _ _ _ h => h
                refine tkH 6 (v := ?tv6_33) K0 rfl (by kernel_rfl) ?tq6_33 (by kernel_rfl) (fun z5 hS => ?ty6_33) ?_
                case ty6_33 => go_simp; rfl
                case tq6_33 => exact fun _ _ _ h => h
                refine tkH 7 (v := ?tv7_34) K0 rfl (by kernel_rfl) ?tq7_34 (by kernel_rfl) (fun z5 hS => ?ty7_34) ?_
                case ty7_34 => go_simp; rfl
                case tq7_34 => exact fun _ _ _ h => h
                refine tkH 8 (v := ?tv8_35) K0 rfl (by kernel_rfl) ?tq8_35 (by kernel_rfl) (fun z5 hS => ?ty8_35) ?_
                case ty8_35 => have g0 := (World.cell?_of_block (a := ⟨go, k * 2, none⟩) (hS.block go hgo2)).trans HOv.out.1; have g1 := (World.cell?_of_block (a := ⟨go, k * 2 + 1, none⟩) (hS.block go hgo2)).trans HOv.out.2; (try simp only at g0 g1); go_simp; rfl
                case tq8_35 => exact fun _ _ _ h => h
                refine tkH 9 (v := ?tv9_36) K0 rfl (by kernel_rfl) ?tq9_36 (by kernel_rfl) (fun z5 hS => ?ty9_36) ?_
                case ty9_36 => go_simp; rfl
                case tq9_36 => exact fun _ _ _ h => h
                refine tkH 10 (v := ?tv10_37) K0 rfl (by kernel_rfl) ?tq10_37 (by kernel_rfl) (fun z5 hS => ?ty10_37) ?_
                case ty10_37 => go_simp; rfl
                case tq10_37 => exact fun _ _ _ h => h
                refine tkH 11 (v := ?tv11_38) K0 rfl (by kernel_rfl) ?tq11_38 (by kernel_rfl) (fun z5 hS => ?ty11_38) ?_
                case ty11_38 => go_simp; rfl
                case tq11_38 => exact fun _ _ _ h => h
                refine tkH 12 (v := ?tv12_39) K0 rfl (by kernel_rfl) ?tq12_39 (by kernel_rfl) (fun z5 hS => ?ty12_39) ?_
                case ty12_39 => have g0 := (HLc.out z5 (HJ.out.1.bel.trans (hS.mono HJ.out.1.le)) (i * 2)).trans HLv.out.1; have g1 := (HLc.out z5 (HJ.out.1.bel.trans (hS.mono HJ.out.1.le)) (i * 2 + 1)).trans HLv.out.2; (try simp only at g0 g1); go_simp; rfl
                case tq12_39 => exact fun _ _ _ h => h
                refine wpAnyH_one (i := 13) (by kernel_rfl) rfl (by kernel_rfl) (fun K hK => ?_)
                go_simp
                (with_reducible refine (HCm18.out _ K0).mono ?_)
                rintro e z1 ⟨he, hb1⟩
                rw [cmpZ_same] at he
                subst he
                have K1 := K0.trans (hb1.mono K0.size)
                refine hK.out _ _ K1 ?_
                refine tkH 14 (v := ?tv14_40) K1 rfl (by kernel_rfl) ?tq14_40 (by kernel_rfl) (fun z5 hS => ?ty14_40) ?_
                case ty14_40 => go_simp; rfl
                case tq14_40 => exact fun _ _ _ h => h
                refine wpAnyH_one (i := 15) (by kernel_rfl) rfl (by kernel_rfl) (fun K hK => ?_)
                go_simp
                refine hK.out _ _ K1 ?_
                refine wpAnyH_end (by kernel_rfl) ?_ _
                have HK1 := Lib.hid K1
                have HJ2 := Lib.hid (HJ.out.1.below K1)
                have hgo3 : go < z1.heap.size := Nat.lt_of_lt_of_le hgo2 K1.size
                have HOv2 := Lib.hid (And.intro ((World.cell?_of_block (a := ⟨go, k * 2, none⟩) (K1.block go hgo2)).trans HOv.out.1) ((World.cell?_of_block (a := ⟨go, k * 2 + 1, none⟩) (K1.block go hgo2)).trans HOv.out.2))
                have HCm20 := Lib.hid (fun (z : World) (hz : Below z1.heap.size z1 z) => HCm.out z (HK1.out.trans (hz.mono HK1.out.size)))
                clear K0 K1 hb1 hs0 HOv
                have HOv := Lib.hid HOv2.out
                clear HOv2
                go_upto_region 20 with fail
                refine wp_region_H (by kernel_rfl) (fun z0 K0 hs0 => ?_)
                refine tkH 0 (v := ?tv0_41) K0 rfl (by kernel_rfl) ?tq0_41 (by kernel_rfl) (fun z5 hS => ?ty0_41) ?_
                case ty0_41 => go_simp; rfl
                case tq0_41 => exact fun _ _ _ h => h
                refine tkH 1 (v := ?tv1_42) K0 rfl (by kernel_rfl) ?tq1_42 (by kernel_rfl) (fun z5 hS => ?ty1_42) ?_
                case ty1_42 => go_simp; rfl
                case tq1_42 => exact fun _ _ _ h => h
                refine tkH 2 (v := ?tv2_43) K0 rfl (by kernel_rfl) ?tq2_43 (by kernel_rfl) (fun z5 hS => ?ty2_43) ?_
                case ty2_43 => go_simp; rfl
                case tq2_43 => exact fun _ _ _ h => h
                refine tkH 3 (v := ?tv3_44) K0 rfl (by kernel_rfl) ?tq3_44 (by kernel_rfl) (fun z5 hS => ?ty3_44) ?_
                case ty3_44 => go_simp; rfl
                case tq3_44 => exact fun _ _ _ h => h
                refine tkH 4 (v := ?tv4_45) K0 rfl (by kernel_rfl) ?tq4_45 (by kernel_rfl) (fun z5 hS => ?ty4_45) ?_
                case ty4_45 => go_simp; rfl
                case tq4_45 => exact fun _ _ _ h => h
                refine tkH 5 (v := ?tv5_46) K0 rfl (by kernel_rfl) ?tq5_46 (by kernel_rfl) (fun z5 hS => ?ty5_46) ?_
                case ty5_46 => go_simp; rfl
                case tq5_46 => exact fun _ _ _ h => h
                refine tkH 6 (v := ?tv6_47) K0 rfl (by kernel_rfl) ?tq6_47 (by kernel_rfl) (fun z5 hS => ?ty6_47) ?_
                case ty6_47 => go_simp; rfl
                case tq6_47 => exact fun _ _ _ h => h
                refine tkH 7 (v := ?tv7_48) K0 rfl (by kernel_rfl) ?tq7_48 (by kernel_rfl) (fun z5 hS => ?ty7_48) ?_
                case ty7_48 => go_simp; rfl
                case tq7_48 => exact fun _ _ _ h => h
                refine tkH 8 (v := ?tv8_49) K0 rfl (by kernel_rfl) ?tq8_49 (by kernel_rfl) (fun z5 hS => ?ty8_49) ?_
                case ty8_49 => have g0 := (World.cell?_of_block (a := ⟨go, k * 2, none⟩) (hS.block go hgo3)).trans HOv.out.1; have g1 := (World.cell?_of_block (a := ⟨go, k * 2 + 1, none⟩) (hS.block go hgo3)).trans HOv.out.2; (try simp only at g0 g1); go_simp; rfl
                case tq8_49 => exact fun _ _ _ h => h
                refine tkH 9 (v := ?tv9_50) K0 rfl (by kernel_rfl) ?tq9_50 (by kernel_rfl) (fun z5 hS => ?ty9_50) ?_
                case ty9_50 => go_simp; rfl
                case tq9_50 => exact fun _ _ _ h => h
                refine tkH 10 (v := ?tv10_51) K0 rfl (by kernel_rfl) ?tq10_51 (by kernel_rfl) (fun z5 hS => ?ty10_51) ?_
                case ty10_51 => go_simp; rfl
                case tq10_51 => exact fun _ _ _ h => h
                refine tkH 11 (v := ?tv11_52) K0 rfl (by kernel_rfl) ?tq11_52 (by kernel_rfl) (fun z5 hS => ?ty11_52) ?_
                case ty11_52 => go_simp; rfl
                case tq11_52 => exact fun _ _ _ h => h
                refine tkH 12 (v := ?tv12_53) K0 rfl (by kernel_rfl) ?tq12_53 (by kernel_rfl) (fun z5 hS => ?ty12_53) ?_
                case ty12_53 => have g0 := (HLc.out z5 (HJ2.out.bel.trans (hS.mono HJ2.out.le)) (i * 2)).trans HLv.out.1; have g1 := (HLc.out z5 (HJ2.out.bel.trans (hS.mono HJ2.out.le)) (i * 2 + 1)).trans HLv.out.2; (try simp only at g0 g1); go_simp; rfl
                case tq12_53 => exact fun _ _ _ h => h
                refine wpAnyH_one (i := 13) (by kernel_rfl) rfl (by kernel_rfl) (fun K hK => ?_)
                go_simp
                (with_reducible refine (HCm20.out _ K0).mono ?_)
                rintro e z1 ⟨he, hb1⟩
                rw [cmpZ_same] at he
                subst he
                have K1 := K0.trans (hb1.mono K0.size)
                refine hK.out _ _ K1 ?_
                refine tkH 14 (v := ?tv14_54) K1 rfl (by kernel_rfl) ?tq14_54 (by kernel_rfl) (fun z5 hS => ?ty14_54) ?_
                case ty14_54 => go_simp; rfl
                case tq14_54 => exact fun _ _ _ h => h
                refine wpAnyH_one (i := 15) (by kernel_rfl) rfl (by kernel_rfl) (fun K hK => ?_)
                go_simp
                refine hK.out _ _ K1 ?_
                refine wpAnyH_end (by kernel_rfl) ?_ _
                have HJ3 := Lib.hid (HJ2.out.below K1)
                clear K0 K1 hb1 hs0
                go_wp2_with fail
                go_roundw
                case rel => exact ⟨i + 1, by omega, by omega, _, _, _, ⟨rfl, rfl, rfl⟩, os, Lib.hid (HJ3.out.skip HZi.out (List.mem_of_getElem? HRz.out))⟩
                case measure => simp [intOf]; omega
              · have HCm18 := Lib.hid HCm.out
                go_upto_region 18 with fail
                refine wp_region_H (by kernel_rfl) (fun z0 K0 hs0 => ?_)
                refine tkH 0 (v := ?tv0_55) K0 rfl (by kernel_rfl) ?tq0_55 (by kernel_rfl) (fun z5 hS => ?ty0_55) ?_
                case ty0_55 => go_simp; rfl
                case tq0_55 => exact fun _ _ _ h => h
                refine tkH 1 (v := ?tv1_56) K0 rfl (by kernel_rfl) ?tq1_56 (by kernel_rfl) (fun z5 hS => ?ty1_56) ?_
                case ty1_56 => go_simp; rfl
                case tq1_56 => exact fun _ _ _ h => h
                refine tkH 2 (v := ?tv2_57) K0 rfl (by kernel_rfl) ?tq2_57 (by kernel_rfl) (fun z5 hS => ?ty2_57) ?_
                case ty2_57 => go_simp; rfl
                case tq2_57 => exact fun _ _ _ h => h
                refine tkH 3 (v := ?tv3_58) K0 rfl (by kernel_rfl) ?tq3_58 (by kernel_rfl) (fun z5 hS => ?ty3_58) ?_
                case ty3_58 => go_simp; rfl
                case tq3_58 => exact fun _ _ _ h => h
                refine tkH 4 (v := ?tv4_59) K0 rfl (by kernel_rfl) ?tq4_59 (by kernel_rfl) (fun z5 hS => ?ty4_59) ?_
                case ty4_59 => go_simp; rfl
                case tq4_59 => exact fun _ _ _ h => h
                refine tkH 5 (v := ?tv5_60) K0 rfl (by kernel_rfl) ?tq5_60 (by kernel_rfl) (fun z5 hS => ?ty5_60) ?_
                case ty5_60 => go_simp; rfl
                case tq5_60 => exact fun _ _ _ h => h
                refine tkH 6 (v := ?tv6_61) K0 rfl (by kernel_rfl) ?tq6_61 (by kernel_rfl) (fun z5 hS => ?ty6_61) ?_
                case ty6_61 => go_simp; rfl
                case tq6_61 => exact fun _ _ _ h => h
                refine tkH 7 (v := ?tv7_62) K0 rfl (by kernel_rfl) ?tq7_62 (by kernel_rfl) (fun z5 hS => ?ty7_62) ?_
                case ty7_62 => go_simp; rfl
                case tq7_62 => exact fun _ _ _ h => h
                refine tkH 8 (v := ?tv8_63) K0 rfl (by kernel_rfl) ?tq8_63 (by kernel_rfl) (fun z5 hS => ?ty8_63) ?_
                case ty8_63 => have g0 := (World.cell?_of_block (a := ⟨go, k * 2, none⟩) (hS.block go hgo2)).trans HOv.out.1; have g1 := (World.cell?_of_block (a := ⟨go, k * 2 + 1, none⟩) (hS.block go hgo2)).trans HOv.out.2; (try simp only at g0 g1); go_simp; rfl
                case tq8_63 => exact fun _ _ _ h => h
                refine tkH 9 (v := ?tv9_64) K0 rfl (by kernel_rfl) ?tq9_64 (by kernel_rfl) (fun z5 hS => ?ty9_64) ?_
                case ty9_64 => go_simp; rfl
                case tq9_64 => exact fun _ _ _ h => h
                refine tkH 10 (v := ?tv10_65) K0 rfl (by kernel_rfl) ?tq10_65 (by kernel_rfl) (fun z5 hS => ?ty10_65) ?_
                case ty10_65 => go_simp; rfl
                case tq10_65 => exact fun _ _ _ h => h
                refine tkH 11 (v := ?tv11_66) K0 rfl (by kernel_rfl) ?tq11_66 (by kernel_rfl) (fun z5 hS => ?ty11_66) ?_
                case ty11_66 => go_simp; rfl
                case tq11_66 => exact fun _ _ _ h => h
                refine tkH 12 (v := ?tv12_67) K0 rfl (by kernel_rfl) ?tq12_67 (by kernel_rfl) (fun z5 hS => ?ty12_67) ?_
                case ty12_67 => have g0 := (HLc.out z5 (HJ.out.1.bel.trans (hS.mono HJ.out.1.le)) (i * 2)).trans HLv.out.1; have g1 := (HLc.out z5 (HJ.out.1.bel.trans (hS.mono HJ.out.1.le)) (i * 2 + 1)).trans HLv.out.2; (try simp only at g0 g1); go_simp; rfl
                case tq12_67 => exact fun _ _ _ h => h
                refine wpAnyH_one (i := 13) (by kernel_rfl) rfl (by kernel_rfl) (fun K hK => ?_)
                go_simp
                (with_reducible refine (HCm18.out _ K0).mono ?_)
                rintro e z1 ⟨he, hb1⟩
                rw [cmpZ_gt hc] at he
                subst he
                have K1 := K0.trans (hb1.mono K0.size)
                refine hK.out _ _ K1 ?_
                refine tkH 14 (v := ?tv14_68) K1 rfl (by kernel_rfl) ?tq14_68 (by kernel_rfl) (fun z5 hS => ?ty14_68) ?_
                case ty14_68 => go_simp; rfl
                case tq14_68 => exact fun _ _ _ h => h
                refine wpAnyH_one (i := 15) (by kernel_rfl) rfl (by kernel_rfl) (fun K hK => ?_)
                go_simp
                refine hK.out _ _ K1 ?_
                refine wpAnyH_end (by kernel_rfl) ?_ _
                have HK1 := Lib.hid K1
                have HJ2 := Lib.hid (HJ.out.1.below K1)
                have hgo3 : go < z1.heap.size := Nat.lt_of_lt_of_le hgo2 K1.size
                have HOv2 := Lib.hid (And.intro ((World.cell?_of_block (a := ⟨go, k * 2, none⟩) (K1.block go hgo2)).trans HOv.out.1) ((World.cell?_of_block (a := ⟨go, k * 2 + 1, none⟩) (K1.block go hgo2)).trans HOv.out.2))
                have HCm20 := Lib.hid (fun (z : World) (hz : Below z1.heap.size z1 z) => HCm.out z (HK1.out.trans (hz.mono HK1.out.size)))
                clear K0 K1 hb1 hs0 HOv
                have HOv := Lib.hid HOv2.out
                clear HOv2
                go_upto_region 20 with fail
                refine wp_region_H (by kernel_rfl) (fun z0 K0 hs0 => ?_)
                refine tkH 0 (v := ?tv0_69) K0 rfl (by kernel_rfl) ?tq0_69 (by kernel_rfl) (fun z5 hS => ?ty0_69) ?_
                case ty0_69 => go_simp; rfl
                case tq0_69 => exact fun _ _ _ h => h
                refine tkH 1 (v := ?tv1_70) K0 rfl (by kernel_rfl) ?tq1_70 (by kernel_rfl) (fun z5 hS => ?ty1_70) ?_
                case ty1_70 => go_simp; rfl
                case tq1_70 => exact fun _ _ _ h => h
                refine tkH 2 (v := ?tv2_71) K0 rfl (by kernel_rfl) ?tq2_71 (by kernel_rfl) (fun z5 hS => ?ty2_71) ?_
                case ty2_71 => go_simp; rfl
                case tq2_71 => exact fun _ _ _ h => h
                refine tkH 3 (v := ?tv3_72) K0 rfl (by kernel_rfl) ?tq3_72 (by kernel_rfl) (fun z5 hS => ?ty3_72) ?_
                case ty3_72 => go_simp; rfl
                case tq3_72 => exact fun _ _ _ h => h
                refine tkH 4 (v := ?tv4_73) K0 rfl (by kernel_rfl) ?tq4_73 (by kernel_rfl) (fun z5 hS => ?ty4_73) ?_
                case ty4_73 => go_simp; rfl
                case tq4_73 => exact fun _ _ _ h => h
                refine tkH 5 (v := ?tv5_74) K0 rfl (by kernel_rfl) ?tq5_74 (by kernel_rfl) (fun z5 hS => ?ty5_74) ?_
                case ty5_74 => go_simp; rfl
                case tq5_74 => exact fun _ _ _ h => h
                refine tkH 6 (v := ?tv6_75) K0 rfl (by kernel_rfl) ?tq6_75 (by kernel_rfl) (fun z5 hS => ?ty6_75) ?_
                case ty6_75 => go_simp; rfl
                case tq6_75 => exact fun _ _ _ h => h
                refine tkH 7 (v := ?tv7_76) K0 rfl (by kernel_rfl) ?tq7_76 (by kernel_rfl) (fun z5 hS => ?ty7_76) ?_
                case ty7_76 => go_simp; rfl
                case tq7_76 => exact fun _ _ _ h => h
                refine tkH 8 (v := ?tv8_77) K0 rfl (by kernel_rfl) ?tq8_77 (by kernel_rfl) (fun z5 hS => ?ty8_77) ?_
                case ty8_77 => have g0 := (World.cell?_of_block (a := ⟨go, k * 2, none⟩) (hS.block go hgo3)).trans HOv.out.1; have g1 := (World.cell?_of_block (a := ⟨go, k * 2 + 1, none⟩) (hS.block go hgo3)).trans HOv.out.2; (try simp only at g0 g1); go_simp; rfl
                case tq8_77 => exact fun _ _ _ h => h
                refine tkH 9 (v := ?tv9_78) K0 rfl (by kernel_rfl) ?tq9_78 (by kernel_rfl) (fun z5 hS => ?ty9_78) ?_
                case ty9_78 => go_simp; rfl
                case tq9_78 => exact fun _ _ _ h => h
                refine tkH 10 (v := ?tv10_79) K0 rfl (by kernel_rfl) ?tq10_79 (by kernel_rfl) (fun z5 hS => ?ty10_79) ?_
                case ty10_79 => go_simp; rfl
                case tq10_79 => exact fun _ _ _ h => h
                refine tkH 11 (v := ?tv11_80) K0 rfl (by kernel_rfl) ?tq11_80 (by kernel_rfl) (fun z5 hS => ?ty11_80) ?_
                case ty11_80 => go_simp; rfl
                case tq11_80 => exact fun _ _ _ h => h
                refine tkH 12 (v := ?tv12_81) K0 rfl (by kernel_rfl) ?tq12_81 (by kernel_rfl) (fun z5 hS => ?ty12_81) ?_
                case ty12_81 => have g0 := (HLc.out z5 (HJ2.out.bel.trans (hS.mono HJ2.out.le)) (i * 2)).trans HLv.out.1; have g1 := (HLc.out z5 (HJ2.out.bel.trans (hS.mono HJ2.out.le)) (i * 2 + 1)).trans HLv.out.2; (try simp only at g0 g1); go_simp; rfl
                case tq12_81 => exact fun _ _ _ h => h
                refine wpAnyH_one (i := 13) (by kernel_rfl) rfl (by kernel_rfl) (fun K hK => ?_)
                go_simp
                (with_reducible refine (HCm20.out _ K0).mono ?_)
                rintro e z1 ⟨he, hb1⟩
                rw [cmpZ_gt hc] at he
                subst he
                have K1 := K0.trans (hb1.mono K0.size)
                refine hK.out _ _ K1 ?_
                refine tkH 14 (v := ?tv14_82) K1 rfl (by kernel_rfl) ?tq14_82 (by kernel_rfl) (fun z5 hS => ?ty14_82) ?_
                case ty14_82 => go_simp; rfl
                case tq14_82 => exact fun _ _ _ h => h
                refine wpAnyH_one (i := 15) (by kernel_rfl) rfl (by kernel_rfl) (fun K hK => ?_)
                go_simp
                refine hK.out _ _ K1 ?_
                refine wpAnyH_end (by kernel_rfl) ?_ _
                have HJ3 := Lib.hid (HJ2.out.below K1)
                have HUp := Lib.hid (show ∀ x, (os.map Bg.z)[k]? = some x → qz < x from fun x hx => by
                  rw [HRz.out] at hx
                  injection hx with hx
                  rw [← hx]
                  exact hc)
                have HDn := Lib.hid HJ.out.2
                clear K0 K1 hb1 hs0 HJ HJ2 HCm HCm18 HCm20 HRs HOv HRz HSr HK1 hgo1 hgo2 hgo3
                have HQk := Lib.hid (show Bg.At wo (fun b => b < C) ⟨qz, qA, qc⟩ from by
                  have h1 := HKq.out
                  exact LimB.keep h1 (fun b hb => ⟨by
                    have h2 := HC.out
                    rcases hb.1 with h3 | h3
                    · have := HPB.out b h3; have := HT.out.le; omega
                    · have := h3.2; omega, rfl⟩))
                have HQ5 := Lib.hid (LimB.keep (w' := z1) (Q := fun b => Or (fun b => b < C) C z1 b ∧ (Value.slice (some ⟨go, 0, none⟩) n3 c3).ownBlock ≠ some b) HQk.out (fun b hb => ⟨⟨.inl hb, HJ3.out.row.ne_old (.inl hb)⟩, HJ3.out.bel.block b hb⟩))
                have HLn3 := Lib.hid (show n3 + 1 ≤ maxRg by
                  have h1 := HJ3.out.len
                  have h2 := HMl.out
                  have h3 := tnL_length L
                  have h4 := HLl.out
                  have h5 := HN9.out
                  have h6 := HZ.out
                  rw [← h6] at h2
                  unfold maxRg
                  omega)
                have l0 := (HLc.out _ HJ3.out.bel (i * 2)).trans HLv.out.1
                have l1 := (HLc.out _ HJ3.out.bel (i * 2 + 1)).trans HLv.out.2
                go_upto_region 22 with (at_builtin; refine wpList_app1PB (q := ⟨qz, qA, qc⟩) rfl _ _ rfl rfl rfl HJ3.out.row HJ3.out.le (fun _ h => h) HQ5.out HLn3.out ?_; intro A6 c6 w8 hr8 hb8 hs8 hx8)
                have HR8 := Lib.hid hr8
                have HB8 := Lib.hid (And.intro hb8 hs8)
                have HOl := Lib.hid HJ3.out.row.len
                obtain ⟨g6, rfl, hg61, hg62, hob6⟩ := HR8.out.some_ (by omega)
                have hcap6 := HR8.out.cap.1
                have hmax6 := HR8.out.cap.2
                unfold maxLen at hmax6
                have hwn : IntKind.i64.wrap (n3 : Int) = (n3 : Int) := IntWalk.i64_in _ (by omega)
                have hn0 : (0 : Int) ≤ (n3 : Int) := by omega
                have HL0 := Lib.hid (show Below C w8 w8 ∧ w8.heap.size ≤ w8.heap.size ∧ BRow w8 C (Or (fun b => b < C) C w8) (some ⟨g6, 0, none⟩) (n3 + 1) c6 (os.take n3 ++ (⟨qz, qA, qc⟩ : Bg) :: os.drop n3) from ⟨Below.refl _ _, Nat.le_refl _, by
                  have h1 := HR8.out
                  rw [List.take_of_length_le (by rw [HOl.out]; exact Nat.le_refl _), List.drop_eq_nil_of_le (by rw [HOl.out]; exact Nat.le_refl _)]
                  exact h1⟩)
                clear hr8 hb8 hs8 hx8 l0 l1
                go_wp2_with fail
                go_loopw [10] (fun vj wr => ∃ (j : Nat) (x : Bg), k ≤ j ∧ j ≤ n3 ∧ vj = .int .i64 (j : Nat) ∧ Hid (Below C w8 wr ∧ w8.heap.size ≤ wr.heap.size ∧ BRow wr C (Or (fun b => b < C) C wr) (some ⟨g6, 0, none⟩) (n3 + 1) c6 (os.take j ++ x :: os.drop j))) (fun vj _ => (intOf vj).toNat)
                case atStart => exact ⟨n3, ⟨qz, qA, qc⟩, by omega, Nat.le_refl _, by go_num, HL0⟩
                case round =>
                  obtain ⟨j, x, hkj, hjn, rfl, HV⟩ := hrel
                  clear HL0
                  have hj0 : (0 : Int) ≤ (j : Int) := by omega
                  have hjm : (j : Int) < (n3 : Int) + 1 := by omega
                  have hg63 : g6 < wr.heap.size := by have := HV.out.2.1; omega
                  by_cases hjk : k < j
                  · obtain ⟨p, hp⟩ : ∃ p, j = p + 1 := ⟨j - 1, by omega⟩
                    obtain ⟨y, hy⟩ : ∃ y, os[p]? = some y := ⟨os[p]'(by have := HOl.out; omega), by simp⟩
                    have hjk2 : (k : Int) < (j : Int) := by omega
                    have hjp : (j : Int) - 1 = (p : Int) := by omega
                    have hwp : IntKind.i64.wrap (p : Int) = (p : Int) := IntWalk.i64_in _ (by omega)
                    have hp0 : (0 : Int) ≤ (p : Int) := by omega
                    have hpm : (p : Int) < (n3 : Int) + 1 := by omega
                    have hgy : (os.take j ++ x :: os.drop j)[p]? = some y := (mid_low (by omega) (by have := HOl.out; omega)).trans hy
                    obtain ⟨c0, c1⟩ := HV.out.2.2.cells_at hgy
                    have HKy := Lib.hid (HV.out.2.2.kid y (List.mem_of_getElem? hgy))
                    have f0 := HV.out.2.2.frozen (j * 2)
                    have f1 := HV.out.2.2.frozen (j * 2 + 1)
                    have HP2 := Lib.hid (HV.out.2.2.put2 (fun b hb => hb.elim (fun h => by have h2 : b < C := h; have := HJ3.out.le; have := HB8.out.2; have := HV.out.2.1; omega) (·.2)) (mid_get (by have := HOl.out; omega)) HKy.out)
                    obtain ⟨d0, d1⟩ := HV.out.2.2.cells_at (mid_get (os := os) (k := j) (x := x) (by have := HOl.out; omega))
                    have HSh := Lib.hid (show (os.take j ++ x :: os.drop j).set j y = os.take p ++ y :: os.drop p by rw [hp]; exact shift_one hy)
                    have HPj := Lib.hid hp
                    have hnj : ¬ (n3 : Int) + 1 ≤ (j : Int) := by omega
                    obtain ⟨yz, yA, yc⟩ := y
                    simp only at c0 c1 HP2
                    clear hgy hy hp
                    go_wp2_with fail
                    go_roundw
                    case rel =>
                      have h1 := HP2.out
                      rw [HSh.out] at h1
                      refine ⟨p, ⟨yz, yA, yc⟩, by have := HPj.out; omega, by have := HPj.out; omega, by go_num, Lib.hid ⟨HV.out.1.grown h1.2 (by have := HJ3.out.le; have := HB8.out.2; have := HV.out.2.1; omega) (fun j e => by injection e with e; omega), Nat.le_trans HV.out.2.1 h1.2.size, h1.1.wide (fun b hb => hb.imp id (fun k => ⟨k.1, Nat.lt_of_lt_of_le k.2 h1.2.size⟩))⟩⟩
                    case measure => simp [intOf]; have := HPj.out; omega
                  · have hjk2 : ¬ (k : Int) < (j : Int) := by omega
                    have hjk3 : j = k := by omega
                    subst hjk3
                    have HBo := Lib.hid (show Below C wo wr from (HJ3.out.bel.trans HB8.out.1).trans HV.out.1)
                    have l0 := (HLc.out _ HBo.out (i * 2)).trans HLv.out.1
                    have l1 := (HLc.out _ HBo.out (i * 2 + 1)).trans HLv.out.2
                    have f0 := HV.out.2.2.frozen (j * 2)
                    have f1 := HV.out.2.2.frozen (j * 2 + 1)
                    have hglr : gl < wr.heap.size := by have := HJ3.out.le; have := HB8.out.2; have := HV.out.2.1; omega
                    have HQr := Lib.hid (show Bg.At wr (fun b => Or (fun b => b < C) C wr b ∧ (Value.slice (some ⟨g6, 0, none⟩) (n3 + 1) c6).ownBlock ≠ some b) ⟨qz, qA, qc⟩ from LimB.keep HQk.out (fun b hb => ⟨⟨.inl hb, HV.out.2.2.ne_old (.inl hb)⟩, HBo.out.block b hb⟩))
                    have HP2 := Lib.hid (HV.out.2.2.put2 (fun b hb => hb.elim (fun h => by have h2 : b < C := h; have := HJ3.out.le; have := HB8.out.2; have := HV.out.2.1; omega) (·.2)) (mid_get (by have := HOl.out; omega)) HQr.out)
                    obtain ⟨d0, d1⟩ := HV.out.2.2.cells_at (mid_get (os := os) (k := j) (x := x) (by have := HOl.out; omega))
                    simp only at HP2
                    go_wp2_with fail
                    go_roundw
                    case rel =>
                      have h1 := HP2.out
                      rw [put_one (by have := HOl.out; omega)] at h1
                      exact ⟨i + 1, by omega, by omega, _, _, _, ⟨rfl, rfl, rfl⟩, _, Lib.hid (HJ3.out.ins HZi.out HDn.out HUp.out HSq.out ((HB8.out.1.trans HV.out.1).grown h1.2 (by have := HJ3.out.le; have := HB8.out.2; have := HV.out.2.1; omega) (fun j e => by injection e with e; omega)) (by have := HJ3.out.le; have := HB8.out.2; have := HV.out.2.1; have := h1.2.size; omega) (h1.1.wide (fun b hb => hb.imp id (fun k => ⟨k.1, Nat.lt_of_lt_of_le k.2 h1.2.size⟩))))⟩
                    case measure => simp [intOf]; omega
            · have hki : ¬ (k : Int) < (n3 : Int) := by omega
              go_upto_region 18 with fail
              refine wp_region_H (by kernel_rfl) (fun z0 K0 hs0 => ?_)
              refine tkH 0 (v := ?tv0_83) K0 rfl (by kernel_rfl) ?tq0_83 (by kernel_rfl) (fun z5 hS => ?ty0_83) ?_
              case ty0_83 => go_simp; rfl
              case tq0_83 => exact fun _ _ _ h => h
              refine tkH 1 (v := ?tv1_84) K0 rfl (by kernel_rfl) ?tq1_84 (by kernel_rfl) (fun z5 hS => ?ty1_84) ?_
              case ty1_84 => go_simp; rfl
              case tq1_84 => exact fun _ _ _ h => h
              refine tkH 2 (v := ?tv2_85) K0 rfl (by kernel_rfl) ?tq2_85 (by kernel_rfl) (fun z5 hS => ?ty2_85) ?_
              case ty2_85 => go_simp; rfl
              case tq2_85 => exact fun _ _ _ h => h
              refine tkH 3 (v := ?tv3_86) K0 rfl (by kernel_rfl) ?tq3_86 (by kernel_rfl) (fun z5 hS => ?ty3_86) ?_
              case ty3_86 => go_simp; rfl
              case tq3_86 => exact fun _ _ _ h => h
              refine tkH 4 (v := ?tv4_87) K0 rfl (by kernel_rfl) ?tq4_87 (by kernel_rfl) (fun z5 hS => ?ty4_87) ?_
              case ty4_87 => go_simp; rfl
              case tq4_87 => exact fun _ _ _ h => h
              refine tkI 5 K0 rfl (by kernel_rfl) (fun _ _ _ h => h) (by kernel_rfl) ?_
              refine tkI 6 K0 rfl (by kernel_rfl) (fun _ _ _ h => h) (by kernel_rfl) ?_
              refine tkI 7 K0 rfl (by kernel_rfl) (fun _ _ _ h => h) (by kernel_rfl) ?_
              refine tkI 8 K0 rfl (by kernel_rfl) (fun _ _ _ h => h) (by kernel_rfl) ?_
              refine tkI 9 K0 rfl (by kernel_rfl) (fun _ _ _ h => h) (by kernel_rfl) ?_
              refine tkI 10 K0 rfl (by kernel_rfl) (fun _ _ _ h => h) (by kernel_rfl) ?_
              refine tkI 11 K0 rfl (by kernel_rfl) (fun _ _ _ h => h) (by kernel_rfl) ?_
              refine tkI 12 K0 rfl (by kernel_rfl) (fun _ _ _ h => h) (by kernel_rfl) ?_
              refine tkI 13 K0 rfl (by kernel_rfl) (fun _ _ _ h => h) (by kernel_rfl) ?_
              refine tkI 14 K0 rfl (by kernel_rfl) (fun _ _ _ h => h) (by kernel_rfl) ?_
              refine wpAnyH_one (i := 15) (by kernel_rfl) rfl (by kernel_rfl) (fun K hK => ?_)
              go_simp
              refine hK.out _ _ K0 ?_
              refine wpAnyH_end (by kernel_rfl) ?_ _
              have HJ2 := Lib.hid (HJ.out.1.below K0)
              clear K0 hs0
              go_upto_region 20 with fail
              refine wp_region_H (by kernel_rfl) (fun z0 K0 hs0 => ?_)
              refine tkH 0 (v := ?tv0_88) K0 rfl (by kernel_rfl) ?tq0_88 (by kernel_rfl) (fun z5 hS => ?ty0_88) ?_
              case ty0_88 => go_simp; rfl
              case tq0_88 => exact fun _ _ _ h => h
              refine tkH 1 (v := ?tv1_89) K0 rfl (by kernel_rfl) ?tq1_89 (by kernel_rfl) (fun z5 hS => ?ty1_89) ?_
              case ty1_89 => go_simp; rfl
              case tq1_89 => exact fun _ _ _ h => h
              refine tkH 2 (v := ?tv2_90) K0 rfl (by kernel_rfl) ?tq2_90 (by kernel_rfl) (fun z5 hS => ?ty2_90) ?_
              case ty2_90 => go_simp; rfl
              case tq2_90 => exact fun _ _ _ h => h
              refine tkH 3 (v := ?tv3_91) K0 rfl (by kernel_rfl) ?tq3_91 (by kernel_rfl) (fun z5 hS => ?ty3_91) ?_
              case ty3_91 => go_simp; rfl
              case tq3_91 => exact fun _ _ _ h => h
              refine tkH 4 (v := ?tv4_92) K0 rfl (by kernel_rfl) ?tq4_92 (by kernel_rfl) (fun z5 hS => ?ty4_92) ?_
              case ty4_92 => go_simp; rfl
              case tq4_92 => exact fun _ _ _ h => h
              refine tkI 5 K0 rfl (by kernel_rfl) (fun _ _ _ h => h) (by kernel_rfl) ?_
              refine tkI 6 K0 rfl (by kernel_rfl) (fun _ _ _ h => h) (by kernel_rfl) ?_
              refine tkI 7 K0 rfl (by kernel_rfl) (fun _ _ _ h => h) (by kernel_rfl) ?_
              refine tkI 8 K0 rfl (by kernel_rfl) (fun _ _ _ h => h) (by kernel_rfl) ?_
              refine tkI 9 K0 rfl (by kernel_rfl) (fun _ _ _ h => h) (by kernel_rfl) ?_
              refine tkI 10 K0 rfl (by kernel_rfl) (fun _ _ _ h => h) (by kernel_rfl) ?_
              refine tkI 11 K0 rfl (by kernel_rfl) (fun _ _ _ h => h) (by kernel_rfl) ?_
              refine tkI 12 K0 rfl (by kernel_rfl) (fun _ _ _ h => h) (by kernel_rfl) ?_
              refine tkI 13 K0 rfl (by kernel_rfl) (fun _ _ _ h => h) (by kernel_rfl) ?_
              refine tkI 14 K0 rfl (by kernel_rfl) (fun _ _ _ h => h) (by kernel_rfl) ?_
              refine wpAnyH_one (i := 15) (by kernel_rfl) rfl (by kernel_rfl) (fun K hK => ?_)
              go_simp
              refine hK.out _ _ K0 ?_
              refine wpAnyH_end (by kernel_rfl) ?_ _
              have HJ3 := Lib.hid (HJ2.out.below K0)
              have HUp := Lib.hid (show ∀ x, (os.map Bg.z)[k]? = some x → qz < x from fun x hx => by
                rw [List.getElem?_eq_none (by rw [List.length_map, HJ3.out.row.len]; omega)] at hx
                cases hx)
              have HDn := Lib.hid HJ.out.2
              clear K0 hs0 HJ HJ2
              have HQk := Lib.hid (show Bg.At wo (fun b => b < C) ⟨qz, qA, qc⟩ from by
                have h1 := HKq.out
                exact LimB.keep h1 (fun b hb => ⟨by
                  have h2 := HC.out
                  rcases hb.1 with h3 | h3
                  · have := HPB.out b h3; have := HT.out.le; omega
                  · have := h3.2; omega, rfl⟩))
              have HQ5 := Lib.hid (LimB.keep (w' := z0) (Q := fun b => Or (fun b => b < C) C z0 b ∧ (Value.slice A3 n3 c3).ownBlock ≠ some b) HQk.out (fun b hb => ⟨⟨.inl hb, HJ3.out.row.ne_old (.inl hb)⟩, HJ3.out.bel.block b hb⟩))
              have HLn3 := Lib.hid (show n3 + 1 ≤ maxRg by
                have h1 := HJ3.out.len
                have h2 := HMl.out
                have h3 := tnL_length L
                have h4 := HLl.out
                have h5 := HN9.out
                have h6 := HZ.out
                rw [← h6] at h2
                unfold maxRg
                omega)
              have l0 := (HLc.out _ HJ3.out.bel (i * 2)).trans HLv.out.1
              have l1 := (HLc.out _ HJ3.out.bel (i * 2 + 1)).trans HLv.out.2
              go_upto_region 22 with (at_builtin; refine wpList_app1PB (q := ⟨qz, qA, qc⟩) rfl _ _ rfl rfl rfl HJ3.out.row HJ3.out.le (fun _ h => h) HQ5.out HLn3.out ?_; intro A6 c6 w8 hr8 hb8 hs8 hx8)
              have HR8 := Lib.hid hr8
              have HB8 := Lib.hid (And.intro hb8 hs8)
              have HOl := Lib.hid HJ3.out.row.len
              obtain ⟨g6, rfl, hg61, hg62, hob6⟩ := HR8.out.some_ (by omega)
              have hcap6 := HR8.out.cap.1
              have hmax6 := HR8.out.cap.2
              unfold maxLen at hmax6
              have hwn : IntKind.i64.wrap (n3 : Int) = (n3 : Int) := IntWalk.i64_in _ (by omega)
              have hn0 : (0 : Int) ≤ (n3 : Int) := by omega
              have HL0 := Lib.hid (show Below C w8 w8 ∧ w8.heap.size ≤ w8.heap.size ∧ BRow w8 C (Or (fun b => b < C) C w8) (some ⟨g6, 0, none⟩) (n3 + 1) c6 (os.take n3 ++ (⟨qz, qA, qc⟩ : Bg) :: os.drop n3) from ⟨Below.refl _ _, Nat.le_refl _, by
                have h1 := HR8.out
                rw [List.take_of_length_le (by rw [HOl.out]; exact Nat.le_refl _), List.drop_eq_nil_of_le (by rw [HOl.out]; exact Nat.le_refl _)]
                exact h1⟩)
              clear hr8 hb8 hs8 hx8 l0 l1
              go_wp2_with fail
              go_loopw [10] (fun vj wr => ∃ (j : Nat) (x : Bg), k ≤ j ∧ j ≤ n3 ∧ vj = .int .i64 (j : Nat) ∧ Hid (Below C w8 wr ∧ w8.heap.size ≤ wr.heap.size ∧ BRow wr C (Or (fun b => b < C) C wr) (some ⟨g6, 0, none⟩) (n3 + 1) c6 (os.take j ++ x :: os.drop j))) (fun vj _ => (intOf vj).toNat)
              case atStart => exact ⟨n3, ⟨qz, qA, qc⟩, by omega, Nat.le_refl _, by go_num, HL0⟩
              case round =>
                obtain ⟨j, x, hkj, hjn, rfl, HV⟩ := hrel
                clear HL0
                have hj0 : (0 : Int) ≤ (j : Int) := by omega
                have hjm : (j : Int) < (n3 : Int) + 1 := by omega
                have hg63 : g6 < wr.heap.size := by have := HV.out.2.1; omega
                by_cases hjk : k < j
                · exact absurd hjk (by omega)
                · have hjk2 : ¬ (k : Int) < (j : Int) := by omega
                  have hjk3 : j = k := by omega
                  subst hjk3
                  have HBo := Lib.hid (show Below C wo wr from (HJ3.out.bel.trans HB8.out.1).trans HV.out.1)
                  have l0 := (HLc.out _ HBo.out (i * 2)).trans HLv.out.1
                  have l1 := (HLc.out _ HBo.out (i * 2 + 1)).trans HLv.out.2
                  have f0 := HV.out.2.2.frozen (j * 2)
                  have f1 := HV.out.2.2.frozen (j * 2 + 1)
                  have hglr : gl < wr.heap.size := by have := HJ3.out.le; have := HB8.out.2; have := HV.out.2.1; omega
                  have HQr := Lib.hid (show Bg.At wr (fun b => Or (fun b => b < C) C wr b ∧ (Value.slice (some ⟨g6, 0, none⟩) (n3 + 1) c6).ownBlock ≠ some b) ⟨qz, qA, qc⟩ from LimB.keep HQk.out (fun b hb => ⟨⟨.inl hb, HV.out.2.2.ne_old (.inl hb)⟩, HBo.out.block b hb⟩))
                  have HP2 := Lib.hid (HV.out.2.2.put2 (fun b hb => hb.elim (fun h => by have h2 : b < C := h; have := HJ3.out.le; have := HB8.out.2; have := HV.out.2.1; omega) (·.2)) (mid_get (by have := HOl.out; omega)) HQr.out)
                  obtain ⟨d0, d1⟩ := HV.out.2.2.cells_at (mid_get (os := os) (k := j) (x := x) (by have := HOl.out; omega))
                  simp only at HP2
                  go_wp2_with fail
                  go_roundw
                  case rel =>
                    have h1 := HP2.out
                    rw [put_one (by have := HOl.out; omega)] at h1
                    exact ⟨i + 1, by omega, by omega, _, _, _, ⟨rfl, rfl, rfl⟩, _, Lib.hid (HJ3.out.ins HZi.out HDn.out HUp.out HSq.out ((HB8.out.1.trans HV.out.1).grown h1.2 (by have := HJ3.out.le; have := HB8.out.2; have := HV.out.2.1; omega) (fun j e => by injection e with e; omega)) (by have := HJ3.out.le; have := HB8.out.2; have := HV.out.2.1; have := h1.2.size; omega) (h1.1.wide (fun b hb => hb.imp id (fun k => ⟨k.1, Nat.lt_of_lt_of_le k.2 h1.2.size⟩))))⟩
                  case measure => simp [intOf]; omega
        · have hki : ¬ (i : Int) < (m : Int) := by omega
          have him2 : i = m := by omega
          have key : TurnsPostB B w L M (.returned (.slice A3 n3 c3)) wr := ⟨A3, n3, c3, os, rfl, (HI.out.row.lower (by have := HC.out; have := HT.out.le; omega)).wide (fun b hb => hb.elim (fun h => by have h2 : b < C := h; have := HI.out.le; omega) (·.2)), HI.out.asc, fun x => by
            rw [HI.out.mem, List.take_of_length_le (by have := HMl.out; omega), HZ.out], by
            have h1 := HI.out.len
            have h2 := HMl.out
            have h3 := tnL_length L
            rw [HZ.out] at h3
            omega, HI.out.sz, HT.out.bel.trans (HI.out.bel.mono (by have := HC.out; have := HT.out.le; omega))⟩
          clear him2
          go_wp2_with fail
          exact bodyPost_ret (v := .slice A3 n3 c3) (by simp [results, Try.results77, go_sem]) rfl key
end Go.Proofs.Ytpikjceodmepiaa

