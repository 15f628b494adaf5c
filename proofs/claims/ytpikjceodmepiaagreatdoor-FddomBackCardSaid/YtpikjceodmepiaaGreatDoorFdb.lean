import Derived.Test.YtpikjceodmepiaaGreatDoorFcb
import Derived.Test.YtpikjceodmepiaaGreatDoorYxb
import Derived.Test.YtpikjceodmepiaaGreatDoorYpb
set_option linter.unusedVariables false
set_option linter.unusedSimpArgs false
namespace Go.Proofs.YtpikjceodmepiaaGreatDoor
open Go.RowKit Hb Hf Ht
set_option linter.unusedVariables false
set_option linter.unusedSimpArgs false
attribute [local go_sem] Oper.semAt_some
/-! ### ranges -/
theorem RRow.one {w : World} {B : Nat} {q : Rg} (hB : B ≤ w.heap.size) (hq : Rg.At w (Fr B w) q) : RRow (w.alloc (.cells (cells6 q).toArray 69)) B (Fr B (w.alloc (.cells (cells6 q).toArray 69))) (some ⟨w.heap.size, 0, none⟩) 1 1 [q] := by
  refine ⟨⟨rfl, .inr ⟨w.heap.size, 1, (cells6 q).toArray, rfl, hB, heap_alloc_new w _, Nat.le_refl _, by simp [maxLen], rfl, by simp [fl6, cells6, Bd.vals]⟩⟩, fun p hp => ?_⟩
  rw [List.mem_singleton.1 hp]
  have hb : Below w.heap.size w (w.alloc (.cells (cells6 q).toArray 69)) := (Below.refl _ _).alloc (Nat.le_refl _) _
  exact hq.keep (fun x hx => ⟨⟨⟨hx.1, Nat.lt_of_lt_of_le hx.2 hb.size⟩, fun e => by
    have e2 : (Value.slice (some ⟨w.heap.size, 0, none⟩) 1 1).ownBlock = some w.heap.size := rfl
    rw [e2] at e; injection e with e; have := hx.2; omega⟩, hb.block x hx.2⟩)
theorem wpList_app2R {ops : Array Oper} {rest : List Oper} {o : Oper} {a : Act} {Q : Exit → Act → World → Prop} {w : World} {B B2 n c m c2 : Nat} {A A2 : Option Addr} {ps qs : List Rg} (hgd : o.guard = none) (s x : Operand)
    (ho : o.op = .call { callee := .builtin .append, args := #[s, x], argTypes := #[22, 22] })
    (hs : a.eval s = .slice A n c) (hx : a.eval x = .slice A2 m c2) (h : RRow w B (Fr B w) A n c ps) (h2 : RRow w B2 (Fr B2 w) A2 m c2 qs) (hB : B ≤ B2) (hlt : ∀ g, (Value.slice A n c).ownBlock = some g → g < B2) (hm : n + m ≤ maxRg) (hb : B ≤ w.heap.size)
    (hh : ∀ A' c' w', RRow w' B (Fr B w') A' (n + m) c' (ps ++ qs) → Below B w w' → wpList Tryz.prog ops Q rest (a.put o.dst (.slice A' (n + m) c')) w') :
    wpList Tryz.prog ops Q (o :: rest) a w := by
  obtain ⟨i0, hi, hz0, hz1, hz2⟩ := info_parts infoR
  rcases h2.own.2 with ⟨e1, e2⟩ | ⟨g2, cap, cur, e1, e2, e3, e4⟩
  · injection e1 with q1 q2 q3
    subst q1 q2 q3
    have hq0 : qs = [] := List.length_eq_zero_iff.1 h2.len
    subst hq0
    refine wpList_append_own_none hgd s x 22 ho B 69 i0 6 Tryz.underlying22 hi (.slice A n c) n (fl6 ps) hs h.own hx ?_
    have := hh A c w (by rw [List.append_nil]; exact h) (Below.refl _ _)
    exact this
  · injection e1 with q1 q2 q3
    subst q1
    refine wpList_append_R hgd s x ho qs hs h (fun b hb => hb.2) ⟨g2, 0, none⟩ m c2 hx h2.len (fun q hq => (h2.kid q hq).keep (fun b hb2 => ⟨⟨⟨by have := hb2.1.1; omega, hb2.1.2⟩, fun e => by have := hlt b e; have := hb2.1.1; omega⟩, rfl⟩)) (fun j u hj => ?_) hm hb ?_
    · have h9 := World.ownsRow.cells h2.own (g := g2) rfl _ _ hj
      exact h9
    · intro A' c' w' hr hb2 hg
      exact hh A' c' w' (hr.wide (fun b hb3 => ⟨hb3.1, Nat.lt_of_lt_of_le hb3.2 hg.size⟩)) hb2
/-- the two arguments of a term -/
theorem TAt.two {w : World} {B : Nat} {k b v : Int} {n m : List UInt8} {x y : Tm} {A : Option Addr} {c : Nat} (h : TAt w B (.mk k n m b v [x, y]) (.slice A 2 c)) : ∃ g o, A = some ⟨g, o, none⟩ ∧ g < B ∧ EltAt w B g o x ∧ EltAt w B g (o + 6) y := by
  obtain ⟨g, o, e, hg, h0⟩ := h.arg (i := 0) (a := x) rfl
  obtain ⟨g', o', e', hg', h1⟩ := h.arg (i := 1) (a := y) rfl
  rw [e] at e'
  injection e' with e'
  injection e' with e1 e2
  subst e1 e2
  refine ⟨g, o, e, hg, ?_, ?_⟩
  · rwa [Nat.zero_mul, Nat.add_zero] at h0
  · rwa [Nat.one_mul] at h1
theorem len_two {α : Type} {l : List α} (h : l.length = 2) : ∃ x y, l = [x, y] := by
  match l, h with
  | [x, y], _ => exact ⟨x, y, rfl⟩
def RgPostB (B : Nat) (w : World) (t : Tm) (e : Ending) (w' : World) : Prop := ∃ A n c qs, e = .returned (.tuple #[.slice A n c, .bool (rdT t).2]) ∧ RRow w' B (Fr B w') A n c qs ∧ (∀ q ∈ qs, Gd q) ∧ qs.map edsR = (rdT t).1 ∧ n ≤ sz t ∧ Bnd 128 (rdT t).1 ∧ Below B w w'
def RgPost (w : World) (t : Tm) (e : Ending) (w' : World) : Prop := RgPostB w.heap.size w t e w'
def RgOk (t : Tm) : Prop := ∀ (w : World) (sl : Value), TAt w w.heap.size t sl → checkP t = 0 → Calls Tryz.prog 43 #[valT t sl] w (RgPost w t)
theorem Gd.of_bd {a b : Bd} {w : World} {P Q : Nat → Prop} (ha : a.At w P) (hb : b.At w Q) (na : a.Nrm) (nb : b.Nrm) (h1 : szE a.ed ≤ 128) (h2 : szE b.ed ≤ 128) : Gd (a, b) := Gd.of_sz ha hb na nb h1 h2 (by omega)
theorem rd_other {k b v : Int} {n m : List UInt8} {ts : List Tm} (h3 : k ≠ 3) (h : k ≠ 5 ∨ ts.length ≠ 2 ∨ (n ≠ sDots ∧ n ≠ sOr)) : rdT (.mk k n m b v ts) = ([], false) := by
  by_cases hl : ∃ x y, ts = [x, y]
  · obtain ⟨x, y, rfl⟩ := hl
    rw [rdT, if_neg h3, if_neg (fun hh => ?_), if_neg (fun hh => ?_)]
    · rcases h with h | h | h
      · exact h hh.1
      · exact h rfl
      · exact h.2 hh.2
    · rcases h with h | h | h
      · exact h hh.1
      · exact h rfl
      · exact h.1 hh.2
  · rw [rdT, if_neg h3]
    exact fun x y e => hl ⟨x, y, e⟩
theorem canon_of {t : Tm} (h : checkP t = 0) : t.k = 3 → canonB t.m = true := (one_iff.1 (check_one h)).2.2.2.2.2.2.1
set_option maxRecDepth 100000 in
set_option maxHeartbeats 4000000 in
theorem ranges_ok (t : Tm) : RgOk t := by
  refine Tm.ind (p := RgOk) (fun k0 n0 m0 b0 v0 ts0 ih w sl h hck => ?_) t
  obtain ⟨k, nl, ml, b, v, ts, nby, mby, A, c, et, rfl, hnb, hmb, hl1, hl2, hl3, hv, hs1, hs2⟩ := h.letters
  injection et with t1 t2 t3 t4 t5 t6
  subst t1 t2 t3 t4 t5 t6
  obtain ⟨B, hB⟩ : ∃ B, w.heap.size = B := ⟨_, rfl⟩
  have HB := Lib.hid hB
  have HIH := Lib.hid ih
  have HCk := Lib.hid hck
  have HH := Lib.hid h
  rw [hv]
  unfold RgPost
  obtain ⟨q, hq⟩ : ∃ q, ts0.length = q := ⟨_, rfl⟩
  rw [hq] at h ⊢
  have hX := TBox.new (ts := ts0) w (k := k0) (b := b0) (v := v0) (sl := .slice A q c) hnb hmb
  have hb1 : Below w.heap.size w (w.alloc (.cells #[.int .i64 k0, .string nby, .string mby, .int .u64 b0, .int .i64 v0, .slice A q c] 26)) := (Below.refl _ _).alloc (Nat.le_refl _) _
  have HX := Lib.hid hX
  have HB1 := Lib.hid hb1
  have HT1 := Lib.hid (show TAt (w.alloc (.cells #[.int .i64 k0, .string nby, .string mby, .int .u64 b0, .int .i64 v0, .slice A q c] 26)) (w.alloc (.cells #[.int .i64 k0, .string nby, .string mby, .int .u64 b0, .int .i64 v0, .slice A q c] 26)).heap.size (.mk k0 n0 m0 b0 v0 ts0) (.slice A q c) from h.boxed _)
  have hnl := toL hnb
  obtain ⟨x0, x1, x2, x3, x4, x5⟩ := hX.cells hnb hmb
  have HL := Lib.hid (And.intro hnb (And.intro hmb hq))
  have HV := Lib.hid (show valT (.mk k0 n0 m0 b0 v0 ts0) (.slice A q c) = .agg #[.int .i64 k0, .string nby, .string mby, .int .u64 b0, .int .i64 v0, .slice A q c] from by rw [← hq]; exact hv)
  have hqc : q ≤ c := by omega
  have hqm : (q : Int) ≤ 1759218604400 := by unfold maxArgs at hl3; omega
  clear h hck hX hb1 hv hnb hmb hl1 hl2 hl3 hs1 hs2 ih
  rw [hB] at HB1 HX x0 x1 x2 x3 x4 x5 ⊢
  generalize hW1 : w.alloc (.cells #[.int .i64 k0, .string nby, .string mby, .int .u64 b0, .int .i64 v0, .slice A q c] 26) = w1 at HX HB1 HT1 x0 x1 x2 x3 x4 x5
  have HW1 := Lib.hid hW1
  have HZ1 := Lib.hid (show w1.heap.size = B + 1 from by rw [← hW1, World.size_alloc, hB])
  clear hB
  by_cases h3 : k0 = 3
  · subst h3
    have HBd := Lib.hid (show Calls Tryz.prog 79 #[.agg #[.int .i64 3, .string nby, .string mby, .int .u64 b0, .int .i64 v0, .slice A q c]] w1 (BdPost w1 (.num (pVal m0 10), true)) from by
      have hh := bound_ok HT1.out (canon_of HCk.out)
      rw [HV.out] at hh
      exact hh)
    have HR := Lib.hid (show rdT (.mk 3 n0 m0 b0 v0 ts0) = ([(.num (pVal m0 10), .num (pVal m0 10))], true) from by rw [rdT.eq_def]; simp)
    obtain ⟨z, hz⟩ : ∃ z, pVal m0 10 = z := ⟨_, rfl⟩
    rw [hz] at HBd HR
    clear hz hnl
    go_enter Tryz.func43, Tryz.ntmps43
    go_upto_region 1 with fail
    try rw [HB.out]
    try rw [hW1]
    clear hW1
    go_wp2_with fail
    (with_reducible refine HBd.out.mono ?_)
    rintro e u ⟨⟨di, dg, dA, dn, dc, dl⟩, rfl, hat, hnr, hed, hsz, hbu⟩
    simp only at hed hsz
    have HA := Lib.hid hat
    have HD := Lib.hid (And.intro hnr (And.intro hed hsz))
    have HBu := Lib.hid (HB1.out.trans (hbu.mono (by have := HZ1.out; omega)))
    clear hat hnr hed hsz hbu x0 x1 x2 x3 x4 x5
    have HE := Lib.hid (EBox.new u ⟨di, dg, dA, dn, dc, dl⟩)
    have HQ := Lib.hid (RRow.one (w := u.alloc (.cells #[.int .i64 di, .bool dg, .slice dA dn dc] 67)) (B := B) (q := ((⟨di, dg, dA, dn, dc, dl⟩, ⟨di, dg, dA, dn, dc, dl⟩) : Rg)) (by have := HBu.out.size; have := HB.out; simp; omega)
      (by
        have hx := HA.out.keep (w' := u.alloc (.cells #[.int .i64 di, .bool dg, .slice dA dn dc] 67)) (Q := Fr B (u.alloc (.cells #[.int .i64 di, .bool dg, .slice dA dn dc] 67))) (fun x hx => ⟨⟨by have := hx.1; have := HZ1.out; omega, by have := hx.2; simp; omega⟩, ((Below.refl u.heap.size u).alloc (Nat.le_refl _) _).block x hx.2⟩)
        exact ⟨hx, hx⟩))
    have HBf := Lib.hid (show Below B w ((u.alloc (.cells #[.int .i64 di, .bool dg, .slice dA dn dc] 67)).alloc (.cells #[.int .i64 di, .bool dg, .slice dA dn dc, .int .i64 di, .bool dg, .slice dA dn dc] 69)) from
      (HBu.out.alloc (by have := HBu.out.size; have := HB.out; omega) _).alloc (by have := HBu.out.size; have := HB.out; simp; omega) _)
    simp only [Bd.v, Bd.vals] at HE ⊢
    simp only [cells6_eq] at HQ
    obtain ⟨y0, y1, y2⟩ := HE.out.cells
    simp only at y0 y1 y2
    go_wp2
    have HG := Lib.hid (show ∀ q ∈ [((⟨di, dg, dA, dn, dc, dl⟩, ⟨di, dg, dA, dn, dc, dl⟩) : Rg)], Gd q from fun q hq => by
      rw [List.mem_singleton.1 hq]
      have hs : szE (Bd.ed ⟨di, dg, dA, dn, dc, dl⟩) ≤ 128 := by rw [HD.out.2.1]; exact HD.out.2.2
      exact Gd.of_bd HA.out HA.out HD.out.1 HD.out.1 hs hs)
    have key : RgPostB B w (.mk 3 n0 m0 b0 v0 ts0) (.returned (.tuple #[.slice (some ⟨u.heap.size + 1, 0, none⟩) 1 1, .bool true])) ((u.alloc (.cells #[.int .i64 di, .bool dg, .slice dA dn dc] 67)).alloc (.cells #[.int .i64 di, .bool dg, .slice dA dn dc, .int .i64 di, .bool dg, .slice dA dn dc] 69)) := by
      have hQ := HQ.out
      rw [World.size_alloc] at hQ
      exact ⟨_, 1, 1, _, by rw [HR.out], hQ, HG.out, by rw [HR.out]; simp [edsR, HD.out.2.1], sz_pos _, by rw [HR.out]; intro r hr; rw [List.mem_singleton.1 hr]; exact ⟨HD.out.2.2, HD.out.2.2⟩, HBf.out⟩
    first
      | (go_ret; exact key)
      | exact bodyPost_ret (v := .tuple #[.slice (some ⟨u.heap.size + 1, 0, none⟩) 1 1, .bool true]) (by simp [results, Tryz.results43, go_sem]) rfl key
  · have h30 : (k0 == 3) = false := beq_eq_false_iff_ne.2 h3
    by_cases h5 : k0 = 5 ∧ q = 2 ∧ (n0 = sDots ∨ n0 = sOr)
    · obtain ⟨rfl, rfl, hn⟩ := h5
      have hl2 := HL.out.2.2
      obtain ⟨x, y, rfl⟩ := len_two hl2
      clear hl2
      obtain ⟨g, o, rfl, hg, ex, ey⟩ := TAt.two HT1.out
      obtain ⟨Ax, cx, kx, nx, mx, bx, vx, tx, nbx, mbx, ex1, hnx, hmx, htx, p0, p1, p2, p3, p4, p5⟩ := EltAt.cells ex
      obtain ⟨Ay, cy, ky, ny, my, by', vy, ty, nby', mby', ey1, hny, hmy, hty, r0, r1, r2, r3, r4, r5⟩ := EltAt.cells ey
      have HVx := Lib.hid (show valT x (.slice Ax tx.length cx) = .agg #[.int .i64 kx, .string nbx, .string mbx, .int .u64 bx, .int .i64 vx, .slice Ax tx.length cx] from by rw [ex1]; exact valT_mk hnx hmx)
      have HVy := Lib.hid (show valT y (.slice Ay ty.length cy) = .agg #[.int .i64 ky, .string nby', .string mby', .int .u64 by', .int .i64 vy, .slice Ay ty.length cy] from by rw [ey1]; exact valT_mk hny hmy)
      have HCx := Lib.hid (show checkP x = 0 from check_arg HCk.out (show x ∈ [x, y] from by simp))
      have HCy := Lib.hid (show checkP y = 0 from check_arg HCk.out (show y ∈ [x, y] from by simp))
      have HTx := Lib.hid (fun (u : World) (hu : Below w1.heap.size w1 u) => show TAt u u.heap.size x (.slice Ax tx.length cx) from htx.to hu hu.size)
      have HTy := Lib.hid (fun (u : World) (hu : Below w1.heap.size w1 u) => show TAt u u.heap.size y (.slice Ay ty.length cy) from hty.to hu hu.size)
      have HPy := Lib.hid (fun (u : World) (hu : Below w1.heap.size w1 u) => show u.cell? ⟨g, o + 6, none⟩ = some (.int .i64 ky) ∧ u.cell? ⟨g, o + 6 + 1, none⟩ = some (.string nby') ∧ u.cell? ⟨g, o + 6 + 2, none⟩ = some (.string mby') ∧ u.cell? ⟨g, o + 6 + 3, none⟩ = some (.int .u64 by') ∧ u.cell? ⟨g, o + 6 + 4, none⟩ = some (.int .i64 vy) ∧ u.cell? ⟨g, o + 6 + 5, none⟩ = some (.slice Ay ty.length cy) from
        ⟨(hu.cell (p := ⟨g, o + 6, none⟩) hg).trans r0, (hu.cell (p := ⟨g, o + 6 + 1, none⟩) hg).trans r1, (hu.cell (p := ⟨g, o + 6 + 2, none⟩) hg).trans r2, (hu.cell (p := ⟨g, o + 6 + 3, none⟩) hg).trans r3, (hu.cell (p := ⟨g, o + 6 + 4, none⟩) hg).trans r4, (hu.cell (p := ⟨g, o + 6 + 5, none⟩) hg).trans r5⟩)
      clear ex ey ex1 ey1 hnx hmx hny hmy htx hty r0 r1 r2 r3 r4 r5
      generalize tx.length = qx at *
      generalize ty.length = qy at *
      have hc2 : (2 : Int) ≤ (c : Int) := by omega
      rcases hn with rfl | rfl
      · have t1 : (nby.toList == [46, 46]) = true := by rw [hnl]; rfl
        have HR := Lib.hid (show rdT (.mk 5 sDots m0 b0 v0 [x, y]) = ([((bdT x).1, (bdT y).1)], (bdT x).2 && (bdT y).2) from by rw [rdT, if_neg (by decide), if_pos ⟨rfl, rfl⟩])
        have HBx := Lib.hid (fun (u : World) (hu : Below w1.heap.size w1 u) => show Calls Tryz.prog 79 #[.agg #[.int .i64 kx, .string nbx, .string mbx, .int .u64 bx, .int .i64 vx, .slice Ax qx cx]] u (BdPost u (bdT x)) from by
          have hh := bound_ok (HTx.out u hu) (canon_of HCx.out)
          rw [HVx.out] at hh
          exact hh)
        have HBy := Lib.hid (fun (u : World) (hu : Below w1.heap.size w1 u) => show Calls Tryz.prog 79 #[.agg #[.int .i64 ky, .string nby', .string mby', .int .u64 by', .int .i64 vy, .slice Ay qy cy]] u (BdPost u (bdT y)) from by
          have hh := bound_ok (HTy.out u hu) (canon_of HCy.out)
          rw [HVy.out] at hh
          exact hh)
        generalize bdT x = rx at HR HBx
        generalize bdT y = ry at HR HBy
        obtain ⟨e1, b1⟩ := rx
        obtain ⟨e2, b2⟩ := ry
        simp only at HR
        clear hnl
        go_enter Tryz.func43, Tryz.ntmps43
        go_upto_region 1 with fail
        try rw [HB.out]
        try rw [hW1]
        clear hW1
        go_upto_region 6 with (go_at_call 79; (with_reducible refine (HBx.out _ (Below.refl _ _)).mono ?_); rintro e u1 ⟨⟨di, dg, dA, dn, dc, dl⟩, rfl, hat, hnr, hed, hsz, hb1⟩; have HA1 := Lib.hid hat; have HD1 := Lib.hid (And.intro hnr (And.intro hed hsz)); have HU1 := Lib.hid hb1; clear hat hnr hed hsz hb1 x0 x1 x2 x3 x4 x5 p0 p1 p2 p3 p4 p5; simp only [Bd.v, Bd.vals])
        try simp only [Bd.v, Bd.vals]
        have HU2 := Lib.hid (HU1.out.alloc HU1.out.size (.cells #[.int .i64 di, .bool dg, .slice dA dn dc] 67))
        have HE1 := Lib.hid (EBox.new u1 ⟨di, dg, dA, dn, dc, dl⟩)
        have HA2 := Lib.hid (show (⟨di, dg, dA, dn, dc, dl⟩ : Bd).At (u1.alloc (.cells #[.int .i64 di, .bool dg, .slice dA dn dc] 67)) (Fr B (u1.alloc (.cells #[.int .i64 di, .bool dg, .slice dA dn dc] 67))) from HA1.out.keep (fun x hx => ⟨⟨by have := hx.1; have := HZ1.out; omega, by have := hx.2; simp; omega⟩, ((Below.refl u1.heap.size u1).alloc (Nat.le_refl _) _).block x hx.2⟩))
        simp only [Bd.vals] at HE1
        generalize hg1 : u1.heap.size = G1 at HE1
        try rw [hg1]
        generalize (u1.alloc (.cells #[.int .i64 di, .bool dg, .slice dA dn dc] 67)) = u2 at *
        clear hg1 HA1 HU1
        obtain ⟨x0, x1, x2, x3, x4, x5⟩ := (TBox.below HX.out HU2.out).cells HL.out.1 HL.out.2.1
        obtain ⟨p0, p1, p2, p3, p4, p5⟩ := HPy.out u2 HU2.out
        go_upto_region 7 with (go_at_call 79; (with_reducible refine (HBy.out _ HU2.out).mono ?_); rintro e u3 ⟨⟨fi, fg, fA, fn, fc, fl⟩, rfl, hat, hnr, hed, hsz, hb3⟩; have HA3 := Lib.hid hat; have HD3 := Lib.hid (And.intro hnr (And.intro hed hsz)); have HU3 := Lib.hid hb3; clear hat hnr hed hsz hb3 x0 x1 x2 x3 x4 x5 p0 p1 p2 p3 p4 p5; simp only [Bd.v, Bd.vals])
        try simp only [Bd.v, Bd.vals]
        have hU3 := HU3.out.size
        have HU4 := Lib.hid (HU3.out.alloc HU3.out.size (.cells #[.int .i64 fi, .bool fg, .slice fA fn fc] 67))
        have HE3 := Lib.hid (EBox.new u3 ⟨fi, fg, fA, fn, fc, fl⟩)
        have HE4 := Lib.hid (HE1.out.below (b := ⟨di, dg, dA, dn, dc, dl⟩) HU4.out)
        have HA4 := Lib.hid (show (⟨di, dg, dA, dn, dc, dl⟩ : Bd).At (u3.alloc (.cells #[.int .i64 fi, .bool fg, .slice fA fn fc] 67)) (Fr B (u3.alloc (.cells #[.int .i64 fi, .bool fg, .slice fA fn fc] 67))) from HA2.out.below HU4.out)
        have HA5 := Lib.hid (show (⟨fi, fg, fA, fn, fc, fl⟩ : Bd).At (u3.alloc (.cells #[.int .i64 fi, .bool fg, .slice fA fn fc] 67)) (Fr B (u3.alloc (.cells #[.int .i64 fi, .bool fg, .slice fA fn fc] 67))) from HA3.out.keep (fun x hx => ⟨⟨by have := hx.1; have := HU2.out.size; have := HZ1.out; omega, by have := hx.2; simp; omega⟩, ((Below.refl u3.heap.size u3).alloc (Nat.le_refl _) _).block x hx.2⟩))
        simp only [Bd.vals] at HE3
        generalize hg3 : u3.heap.size = G3 at HE3
        try rw [hg3]
        generalize (u3.alloc (.cells #[.int .i64 fi, .bool fg, .slice fA fn fc] 67)) = u4 at *
        clear hg3 HA3 HU3 HA2 HE1
        have HBw := Lib.hid (show Below B w u4 from (HB1.out.trans (HU2.out.mono (by have := HZ1.out; omega))).trans (HU4.out.mono (by have := HZ1.out; have := HU2.out.size; omega)))
        have hBs : B ≤ u4.heap.size := by have := HBw.out.size; have := HB.out; omega
        have HQ := Lib.hid (RRow.one (w := u4) (B := B) (q := ((⟨di, dg, dA, dn, dc, dl⟩, ⟨fi, fg, fA, fn, fc, fl⟩) : Rg)) hBs ⟨HA4.out, HA5.out⟩)
        have HBf := Lib.hid (show Below B w (u4.alloc (.cells #[.int .i64 di, .bool dg, .slice dA dn dc, .int .i64 fi, .bool fg, .slice fA fn fc] 69)) from HBw.out.alloc hBs _)
        simp only [cells6_eq] at HQ
        obtain ⟨y0, y1, y2⟩ := HE4.out.cells
        obtain ⟨z0, z1, z2⟩ := EBox.cells (b := ⟨fi, fg, fA, fn, fc, fl⟩) HE3.out
        simp only at y0 y1 y2 z0 z1 z2
        have HG := Lib.hid (show ∀ q ∈ [((⟨di, dg, dA, dn, dc, dl⟩, ⟨fi, fg, fA, fn, fc, fl⟩) : Rg)], Gd q from fun q hq => by
          rw [List.mem_singleton.1 hq]
          exact Gd.of_bd HA4.out HA5.out HD1.out.1 HD3.out.1 (by rw [HD1.out.2.1]; exact HD1.out.2.2) (by rw [HD3.out.2.1]; exact HD3.out.2.2))
        have key : ∀ bb, bb = (b1 && b2) → RgPostB B w (.mk 5 sDots m0 b0 v0 [x, y]) (.returned (.tuple #[.slice (some ⟨u4.heap.size, 0, none⟩) 1 1, .bool bb])) (u4.alloc (.cells #[.int .i64 di, .bool dg, .slice dA dn dc, .int .i64 fi, .bool fg, .slice fA fn fc] 69)) := fun bb hbb =>
          ⟨_, 1, 1, _, by rw [HR.out, hbb], HQ.out, HG.out, by rw [HR.out]; simp only [List.map_cons, List.map_nil, edsR, HD1.out.2.1, HD3.out.2.1], sz_pos _, by rw [HR.out]; intro r hr; rw [List.mem_singleton.1 hr]; exact ⟨HD1.out.2.2, HD3.out.2.2⟩, HBf.out⟩
        have HK := Lib.hid key
        clear key
        cases b1
        all_goals
          go_wp2
          first
            | (go_ret; exact HK.out _ rfl)
            | exact bodyPost_ret (v := .tuple #[.slice (some ⟨u4.heap.size, 0, none⟩) 1 1, .bool _]) (by simp [results, Tryz.results43, go_sem]) rfl (HK.out _ rfl)
      · have t1 : (nby.toList == [46, 46]) = false := by rw [hnl]; rfl
        have t2 : (nby.toList == [92, 47]) = true := by rw [hnl]; rfl
        have HR := Lib.hid (show rdT (.mk 5 sOr m0 b0 v0 [x, y]) = ((rdT x).1 ++ (rdT y).1, (rdT x).2 && (rdT y).2) from by rw [rdT, if_neg (by decide), if_neg (by decide), if_pos ⟨rfl, rfl⟩])
        have HRx := Lib.hid (fun (u : World) (hu : Below w1.heap.size w1 u) => show Calls Tryz.prog 43 #[.agg #[.int .i64 kx, .string nbx, .string mbx, .int .u64 bx, .int .i64 vx, .slice Ax qx cx]] u (RgPostB u.heap.size u x) from by
          have hh := HIH.out x (by simp) u _ (HTx.out u hu) HCx.out
          rw [HVx.out] at hh
          exact hh)
        have HRy := Lib.hid (fun (u : World) (hu : Below w1.heap.size w1 u) => show Calls Tryz.prog 43 #[.agg #[.int .i64 ky, .string nby', .string mby', .int .u64 by', .int .i64 vy, .slice Ay qy cy]] u (RgPostB u.heap.size u y) from by
          have hh := HIH.out y (by simp) u _ (HTy.out u hu) HCy.out
          rw [HVy.out] at hh
          exact hh)
        unfold RgPostB at HRx HRy
        have HSz := Lib.hid (show sz (.mk 5 sOr m0 b0 v0 [x, y]) = sz x + sz y + 1 ∧ sz x + sz y ≤ 4000 from by
          have h1 : sz (.mk 5 sOr m0 b0 v0 [x, y]) = sz x + sz y + 1 := by simp [sz, szs]
          have h2 := (check_iff.1 HCk.out).1
          omega)
        obtain ⟨b1, hb1⟩ : ∃ b, (rdT x).2 = b := ⟨_, rfl⟩
        obtain ⟨b2, hb2⟩ : ∃ b, (rdT y).2 = b := ⟨_, rfl⟩
        rw [hb1] at HRx HR
        rw [hb2] at HRy HR
        clear hnl hb1 hb2
        go_enter Tryz.func43, Tryz.ntmps43
        go_upto_region 1 with fail
        try rw [HB.out]
        try rw [hW1]
        clear hW1
        go_upto_region 10 with (go_at_call 43; (with_reducible refine (HRx.out _ (Below.refl _ _)).mono ?_); rintro e u1 ⟨A1, n1, c1, qs1, rfl, hr1, hg1, he1, hn1, hs1, hb1⟩; have HW := Lib.hid (And.intro hr1 (And.intro hg1 (And.intro he1 (And.intro hn1 hs1)))); have HU1 := Lib.hid hb1; clear hr1 hg1 he1 hn1 hs1 hb1 x0 x1 x2 x3 x4 x5 p0 p1 p2 p3 p4 p5; obtain ⟨x0, x1, x2, x3, x4, x5⟩ := (TBox.below HX.out HU1.out).cells HL.out.1 HL.out.2.1; obtain ⟨p0, p1, p2, p3, p4, p5⟩ := HPy.out u1 HU1.out)
        go_upto_region 11 with (go_at_call 43; (with_reducible refine (HRy.out _ HU1.out).mono ?_); rintro e u2 ⟨A2, n2, c2, qs2, rfl, hr1, hg1, he1, hn1, hs1, hb1⟩; have HY := Lib.hid (And.intro hr1 (And.intro hg1 (And.intro he1 (And.intro hn1 hs1)))); have HU2 := Lib.hid hb1; clear hr1 hg1 he1 hn1 hs1 hb1 x0 x1 x2 x3 x4 x5 p0 p1 p2 p3 p4 p5)
        have hU1 := HU1.out.size
        have hU2 := HU2.out.size
        have hZ1 := HZ1.out
        have HBw := Lib.hid (show Below B w u2 from (HB1.out.trans (HU1.out.mono (by omega))).trans (HU2.out.mono (by omega)))
        have hBs : B ≤ u2.heap.size := by omega
        have HRa := Lib.hid (show RRow u2 B (Fr B u2) A1 n1 c1 qs1 from (((HW.out.1.fr HU2.out).wide (fun b hb => ⟨by have := hb.1; omega, hb.2⟩)).lower (by omega)))
        have HLt := Lib.hid (show ∀ gg, (Value.slice A1 n1 c1).ownBlock = some gg → gg < u1.heap.size from fun gg e => by
          rcases HW.out.1.block with ⟨e1, _⟩ | ⟨g1, e1, _, h2, h3⟩
          · rw [e1] at e; cases e
          · rw [h3] at e; injection e with e; omega)
        have HMx := Lib.hid (show n1 + n2 ≤ maxRg from by have := HW.out.2.2.2.1; have := HY.out.2.2.2.1; have := HSz.out.2; unfold maxRg; omega)
        have HG := Lib.hid (show ∀ q ∈ qs1 ++ qs2, Gd q from fun q hq => (List.mem_append.1 hq).elim (HW.out.2.1 q) (HY.out.2.1 q))
        have key : ∀ bb A3 c3 u3, bb = (b1 && b2) → RRow u3 B (Fr B u3) A3 (n1 + n2) c3 (qs1 ++ qs2) → Below B u2 u3 → RgPostB B w (.mk 5 sOr m0 b0 v0 [x, y]) (.returned (.tuple #[.slice A3 (n1 + n2) c3, .bool bb])) u3 := fun bb A3 c3 u3 hbb hr3 hb3 =>
          ⟨_, _, _, _, by rw [HR.out, hbb], hr3, HG.out, by rw [HR.out, List.map_append, HW.out.2.2.1, HY.out.2.2.1], by have := HW.out.2.2.2.1; have := HY.out.2.2.2.1; have := HSz.out.1; omega, by rw [HR.out]; intro r hr; exact (List.mem_append.1 hr).elim (HW.out.2.2.2.2 r) (HY.out.2.2.2.2 r), HBw.out.trans hb3⟩
        have HK := Lib.hid key
        clear key
        cases b1
        all_goals
          go_wp2_with (at_builtin; refine wpList_app2R rfl _ _ rfl (by rfl) (by rfl) HRa.out HY.out.1 (by omega) HLt.out HMx.out hBs ?_; intro A3 c3 u3 hr3 hb3; have HR3 := Lib.hid (And.intro hr3 hb3); clear hr3 hb3)
          first
            | (go_ret; exact HK.out _ _ _ _ rfl HR3.out.1 HR3.out.2)
            | exact bodyPost_ret (v := .tuple #[.slice A3 (n1 + n2) c3, .bool _]) (by simp [results, Tryz.results43, go_sem]) rfl (HK.out _ _ _ _ rfl HR3.out.1 HR3.out.2)
    · have HR := Lib.hid (show rdT (.mk k0 n0 m0 b0 v0 ts0) = ([], false) from by
        refine rd_other h3 ?_
        by_cases g1 : k0 = 5
        · by_cases g2 : q = 2
          · exact .inr (.inr ⟨fun e => h5 ⟨g1, g2, .inl e⟩, fun e => h5 ⟨g1, g2, .inr e⟩⟩)
          · exact .inr (.inl (by rw [HL.out.2.2]; exact g2))
        · exact .inl g1)
      have key : RgPostB B w (.mk k0 n0 m0 b0 v0 ts0) (.returned (.tuple #[.slice none 0 0, .bool false])) w1 :=
        ⟨none, 0, 0, [], by rw [HR.out], RRow.nil _ _ _, by simp, by rw [HR.out]; rfl, Nat.zero_le _, by rw [HR.out]; intro r hr; simp at hr, HB1.out⟩
      have HK := Lib.hid key
      clear key
      by_cases g1 : k0 = 5
      · subst g1
        by_cases g2 : q = 2
        · subst g2
          have t1 : (nby.toList == [46, 46]) = false := by rw [hnl]; exact beq_eq_false_iff_ne.2 (fun e => h5 ⟨rfl, rfl, .inl e⟩)
          have t2 : (nby.toList == [92, 47]) = false := by rw [hnl]; exact beq_eq_false_iff_ne.2 (fun e => h5 ⟨rfl, rfl, .inr e⟩)
          clear hnl h5
          go_enter Tryz.func43, Tryz.ntmps43
          go_upto_region 1 with fail
          try rw [HB.out]
          try rw [hW1]
          clear hW1
          go_wp2
          first
            | (go_ret; exact HK.out)
            | exact bodyPost_ret (v := .tuple #[.slice none 0 0, .bool false]) (by simp [results, Tryz.results43, go_sem]) rfl HK.out
        · have g20 : ((q : Int) == 2) = false := beq_eq_false_iff_ne.2 (by omega)
          clear hnl h5
          go_enter Tryz.func43, Tryz.ntmps43
          go_upto_region 1 with fail
          try rw [HB.out]
          try rw [hW1]
          clear hW1
          go_wp2
          first
            | (go_ret; exact HK.out)
            | exact bodyPost_ret (v := .tuple #[.slice none 0 0, .bool false]) (by simp [results, Tryz.results43, go_sem]) rfl HK.out
      · have g10 : (k0 == 5) = false := beq_eq_false_iff_ne.2 g1
        clear hnl h5
        go_enter Tryz.func43, Tryz.ntmps43
        go_upto_region 1 with fail
        try rw [HB.out]
        try rw [hW1]
        clear hW1
        go_wp2
        first
          | (go_ret; exact HK.out)
          | exact bodyPost_ret (v := .tuple #[.slice none 0 0, .bool false]) (by simp [results, Tryz.results43, go_sem]) rfl HK.out
end Go.Proofs.YtpikjceodmepiaaGreatDoor

