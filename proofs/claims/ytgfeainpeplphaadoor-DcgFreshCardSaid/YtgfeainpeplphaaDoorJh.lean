import Derived.Test.YtgfeainpeplphaaDoorJg
namespace Ht
/-- two bodies one behind the other -/
def seqR (s : List UInt8) (x y f d : Tm) (nx : Int) : Except Tm (Tm × Int) :=
  match mkB x f (varT nx) (nx + 1) with
  | .error e => .error e
  | .ok (a, n1) => match mkB y (varT nx) d n1 with
    | .error e => .error e
    | .ok (c, n2) => .ok (cmpT s [a, c], n2)
def seqK (s : List UInt8) (a : Tm) : Except Tm (Tm × Int) → Except Tm (Tm × Int)
  | .error e => .error e
  | .ok (c, n2) => .ok (cmpT s [a, c], n2)
theorem seqR_bad {s : List UInt8} {x y f d e : Tm} {nx : Int} (h : mkB x f (varT nx) (nx + 1) = .error e) : seqR s x y f d nx = .error e := by rw [seqR, h]
theorem seqR_ok {s : List UInt8} {x y f d a : Tm} {nx n1 : Int} (h : mkB x f (varT nx) (nx + 1) = .ok (a, n1)) : seqR s x y f d nx = seqK s a (mkB y (varT nx) d n1) := by
  rw [seqR, h]
  cases hm : mkB y (varT nx) d n1 with
  | error e => simp [hm, seqK]
  | ok p => simp [hm, seqK]
theorem mkB_next {t f d g : Tm} {nx n' : Int} (h : mkB t f d nx = .ok (g, n')) : nx ≤ n' ∧ n' + 1 ≤ nx + sz t := (mkB_mk t f d nx g n' h).next
end Ht
namespace Go.Proofs.YtgfeainpeplphaaDoor
open Go.RowKit Hb Ht
set_option linter.unusedVariables false
set_option linter.unusedSimpArgs false
attribute [local go_sem] Oper.semAt_some
/-! ### body: what a call of it says -/
def BodyPost (w : World) (P : Nat → Prop) (Q N : Nat) (r : Except Tm (Tm × Int)) (e : Ending) (w' : World) : Prop :=
  w.grownBy w' (some N) ∧ match r with
    | .ok (g, n') => (∃ sg, e = .returned (valT g sg) ∧ TAtP w' (Grow P w w') g sg) ∧ NumAt w' Q N n'
    | .error b => Threw e w' b
theorem BodyPost.ok {w w' : World} {P : Nat → Prop} {Q N : Nat} {g : Tm} {n' : Int} {e : Ending} (h : BodyPost w P Q N (.ok (g, n')) e w') : w.grownBy w' (some N) ∧ (∃ sg, e = .returned (valT g sg) ∧ TAtP w' (Grow P w w') g sg) ∧ NumAt w' Q N n' := h
theorem BodyPost.bad {w w' : World} {P : Nat → Prop} {Q N : Nat} {b : Tm} {e : Ending} (h : BodyPost w P Q N (.error b) e w') : w.grownBy w' (some N) ∧ Threw e w' b := h
/-- a term made, by its letters -/
theorem BodyPost.letters {w w' : World} {P : Nat → Prop} {Q N : Nat} {k v b : Int} {n m : List UInt8} {ts : List Tm} {nb mb : ByteArray} {q : Nat} {n' : Int} {e : Ending} (hn : (⟨n.toArray⟩ : ByteArray) = nb) (hm : (⟨m.toArray⟩ : ByteArray) = mb) (hq : ts.length = q) (h : BodyPost w P Q N (.ok (.mk k n m b v ts, n')) e w') :
    ∃ A c, e = .returned (.agg #[.int .i64 k, .string nb, .string mb, .int .u64 b, .int .i64 v, .slice A q c]) ∧ TAtP w' (Grow P w w') (.mk k n m b v ts) (.slice A q c) ∧ NumAt w' Q N n' ∧ w.grownBy w' (some N) := by
  obtain ⟨h1, ⟨sg, h2, h3⟩, h4⟩ := h.ok
  obtain ⟨A, c, e1, _⟩ := TAtP.iff.1 h3
  subst e1
  change e = .returned (valT _ (.slice A ts.length c)) at h2
  change TAtP w' _ _ (.slice A ts.length c) at h3
  rw [valT_mk hn hm, hq] at h2
  rw [hq] at h3
  exact ⟨A, c, h2, h3, h4, h1⟩
def BodyOk (w0 : World) (t : Tm) : Prop := ∀ (w : World) (P : Nat → Prop) (f d : Tm) (st sf sd : Value) (Q N : Nat) (x : Int), (∀ b, P b → b < w.heap.size ∧ b ≠ N) → TAtP w P t st → TAtP w P f sf → TAtP w P d sd → NumAt w Q N x → 0 ≤ x → x + sz t ≤ 4611686018427396000 →
  checkP t = 0 → UOk w0 w → w0.heap.size ≤ N → Calls Tryd.prog 38 #[valT t st, valT f sf, valT d sd, freshV Q] w (BodyPost w P Q N (mkB t f d x))
structure BF (P : Nat → Prop) (N Q Fb G G1 G2 : Nat) (t f d : Tm) (st sf sd : Value) (W : World) : Prop where
  t0 : W.heap[Fb]? = some (.cells #[freshV Q] 70 (0, 0))
  t1 : TBox W G t st
  t2 : TBox W G1 f sf
  t3 : TBox W G2 d sd
  x1 : TAtP W P t st
  x2 : TAtP W P f sf
  x3 : TAtP W P d sd
  hP : ∀ b, P b → b < W.heap.size ∧ b ≠ N
  n0 : Fb ≠ N ∧ G ≠ N ∧ G1 ≠ N ∧ G2 ≠ N
theorem blk_ne {w w' : World} {N g : Nat} {o : Obj} (hg : w.grownBy w' (some N)) (h : w.heap[g]? = some o) (hn : g ≠ N) : w'.heap[g]? = some o :=
  (hg.block g (Array.getElem?_eq_some_iff.1 h).1 (fun e => hn (by injection e))).trans h
theorem TBox.gro {w w' : World} {N g : Nat} {t : Tm} {sl : Value} (h : TBox w g t sl) (hg : w.grownBy w' (some N)) (hn : g ≠ N) : TBox w' g t sl := blk_ne hg h hn
theorem TAtP.gro {w w' : World} {P : Nat → Prop} {N : Nat} {t : Tm} {sl : Value} (h : TAtP w P t sl) (hP : ∀ b, P b → b < w.heap.size ∧ b ≠ N) (hg : w.grownBy w' (some N)) : TAtP w' P t sl :=
  TAtP.keep _ h (fun b hb => ⟨hb, hg.block b (hP b hb).1 (fun e => (hP b hb).2 (by injection e))⟩)
theorem BF.go {P : Nat → Prop} {N Q Fb G G1 G2 : Nat} {t f d : Tm} {st sf sd : Value} {W W' : World} (h : BF P N Q Fb G G1 G2 t f d st sf sd W) (hg : W.grownBy W' (some N)) : BF P N Q Fb G G1 G2 t f d st sf sd W' :=
  ⟨blk_ne hg h.t0 h.n0.1, h.t1.gro hg h.n0.2.1, h.t2.gro hg h.n0.2.2.1, h.t3.gro hg h.n0.2.2.2, TAtP.gro h.x1 h.hP hg, TAtP.gro h.x2 h.hP hg, TAtP.gro h.x3 h.hP hg, fun b hb => ⟨Nat.lt_of_lt_of_le (h.hP b hb).1 hg.size, (h.hP b hb).2⟩, h.n0⟩
/-- a term is stored in a box that is not among what is kept -/
theorem grown_box {w w' : World} {R : Nat} (hg : w.grownBy w' (some R)) {g : Nat} {o : Obj} (h : w.heap[g]? = some o) (hn : g ≠ R) : w'.heap[g]? = some o := blk_ne hg h hn
theorem NumAt.gro {w w' : World} {Q N R : Nat} {x : Int} (h : NumAt w Q N x) (hg : w.grownBy w' (some R)) (h1 : Q ≠ R) (h2 : N ≠ R) : NumAt w' Q N x := ⟨blk_ne hg h.q h1, blk_ne hg h.n h2, h.ne⟩
/-- new blocks are written: for what was there nothing turns -/
theorem gb_new {w w1 w2 : World} {N R : Nat} (h : w.grownBy w1 (some N)) (hg : w1.grownBy w2 (some R)) (hR : w.heap.size ≤ R) : w.grownBy w2 (some N) :=
  ⟨hg.os.trans h.os, hg.tape.trans h.tape, hg.output.trans h.output, Nat.le_trans h.size hg.size, fun j hj hne => (hg.block j (Nat.lt_of_lt_of_le hj h.size) (fun e => by injection e with e; omega)).trans (h.block j hj hne)⟩
set_option maxRecDepth 100000 in
set_option maxHeartbeats 16000000 in
theorem both_any {w0 w : World} {P : Nat → Prop} {N Q Fb G G1 G2 : Nat} {n m : List UInt8} {b v : Int} {x y f d : Tm} {st sf sd : Value} {nx : Int} (h : BF P N Q Fb G G1 G2 (.mk 5 n m b v [x, y]) f d st sf sd w) (hx : BodyOk w0 x) (hy : BodyOk w0 y) (hN : NumAt w Q N nx) (h0 : 0 ≤ nx) (hb : nx + sz x + sz y ≤ 4611686018427395999)
    (hcx : checkP x = 0) (hcy : checkP y = 0) (hU : UOk w0 w) (hw0 : w0.heap.size ≤ N) (s : List UInt8) (hs : s.length ≤ maxLen) (sb : ByteArray) (hsb : (⟨s.toArray⟩ : ByteArray) = sb) :
    Calls Tryd.prog 63 #[.string sb, .pointer (some ⟨Fb, 0, none⟩), .pointer (some ⟨G, 0, none⟩), .pointer (some ⟨G1, 0, none⟩), .pointer (some ⟨G2, 0, none⟩)] w (BodyPost w P Q N (seqR s x y f d nx)) := by
  have hlt := hN.lt
  obtain ⟨nbt, hnbt⟩ : ∃ nb : ByteArray, (⟨n.toArray⟩ : ByteArray) = nb := ⟨_, rfl⟩
  obtain ⟨mbt, hmbt⟩ : ∃ mb : ByteArray, (⟨m.toArray⟩ : ByteArray) = mb := ⟨_, rfl⟩
  obtain ⟨A, c, hst, hc1, hc2, _, _, hgo⟩ := TAtP.iff.1 h.x1
  obtain ⟨g, o, hA, hPg, hel⟩ := hgo (by simp [Tm.as])
  subst hA
  change st = .slice (some ⟨g, o, none⟩) 2 c at hst
  subst hst
  have hex := hel 0 x rfl
  have hey := hel 1 y rfl
  obtain ⟨A1, c1, k1, n1, m1, b1, v1, ts1, nb1, mb1, rfl, hnb1, hmb1, htx, e0, e1, e2, e3, e4, e5⟩ := EltP.cells hex
  obtain ⟨A4, c4, k4, n4, m4, b4, v4, ts4, nb4, mb4, rfl, hnb4, hmb4, hty, q0, q1, q2, q3, q4, q5⟩ := EltP.cells hey
  rw [Nat.zero_mul, Nat.add_zero] at e0 e1 e2 e3 e4 e5
  rw [Nat.one_mul] at q0 q1 q2 q3 q4 q5
  obtain ⟨k2, n2, m2, b2, v2, ts2, nb2, mb2, A2, c2, rfl, rfl, hnb2, hmb2, _, _, _, hv2, _, _⟩ := h.x2.letters
  obtain ⟨k3, n3, m3, b3, v3, ts3, nb3, mb3, A3, c3, rfl, rfl, hnb3, hmb3, _, _, _, hv3, _, _⟩ := h.x3.letters
  obtain ⟨L1, hL1⟩ : ∃ L, ts1.length = L := ⟨_, rfl⟩
  obtain ⟨L2, hL2⟩ : ∃ L, ts2.length = L := ⟨_, rfl⟩
  obtain ⟨L3, hL3⟩ : ∃ L, ts3.length = L := ⟨_, rfl⟩
  obtain ⟨L4, hL4⟩ : ∃ L, ts4.length = L := ⟨_, rfl⟩
  rw [hL1] at e5 htx
  rw [hL4] at q5 hty
  rw [hL2, hL3] at h
  have HM := Lib.hid (And.intro (And.intro hnbt hmbt) (And.intro (And.intro hnb1 hmb1) (And.intro (And.intro hnb2 hmb2) (And.intro (And.intro hnb3 hmb3) (And.intro hnb4 hmb4)))))
  have HPb := Lib.hid (And.intro (h.hP g hPg) h.n0)
  have HEx := Lib.hid (And.intro htx (And.intro e0 (And.intro e1 (And.intro e2 (And.intro e3 (And.intro e4 e5))))))
  have HEy := Lib.hid (And.intro hty (And.intro q0 (And.intro q1 (And.intro q2 (And.intro q3 (And.intro q4 q5))))))
  have HBF := Lib.hid h
  have HNum := Lib.hid hN
  have HU := Lib.hid (And.intro hU hw0)
  have HX := Lib.hid hx
  have HY := Lib.hid hy
  have HCk := Lib.hid (And.intro hcx hcy)
  have HBd := Lib.hid (And.intro h0 hb)
  have HSs := Lib.hid (And.intro hs hsb)
  have HLT := Lib.hid hlt
  -- the first world: the result's variable
  obtain ⟨W1, hW1⟩ : ∃ W1, w.alloc (.cells #[.int .i64 0, .string ⟨#[]⟩, .string ⟨#[]⟩, .int .u64 0, .int .i64 0, .slice none 0 0] 25) = W1 := ⟨_, rfl⟩
  have hb1 : Below w.heap.size w W1 := by rw [← hW1]; exact (Below.refl _ _).alloc (Nat.le_refl _) _
  have hR : TBox W1 w.heap.size zeroT (.slice none 0 0) := by rw [← hW1]; exact heap_alloc_new w _
  have HR := Lib.hid (And.intro hb1 hR)
  have HFr := Lib.hid (fresh_any (hN.below hb1) ⟨h0, by have := sz_pos (.mk k1 n1 m1 b1 v1 ts1); omega⟩)
  have cF : W1.cell? ⟨Fb, 0, none⟩ = some (.func (.func 60) #[] #[.pointer (some ⟨Q, 0, none⟩)]) := cell_of_one ((hb1.block Fb (Array.getElem?_eq_some_iff.1 h.t0).1).trans h.t0)
  obtain ⟨R0, hR0⟩ : ∃ R0, w.heap.size = R0 := ⟨_, rfl⟩
  have HR0 := Lib.hid hR0
  obtain ⟨RX, hRX⟩ : ∃ RX, mkB (.mk k1 n1 m1 b1 v1 ts1) (.mk k2 n2 m2 b2 v2 ts2) (varT nx) (nx + 1) = RX := ⟨_, rfl⟩
  obtain ⟨RR, hRR⟩ : ∃ RR, seqR s (.mk k1 n1 m1 b1 v1 ts1) (.mk k4 n4 m4 b4 v4 ts4) (.mk k2 n2 m2 b2 v2 ts2) (.mk k3 n3 m3 b3 v3 ts3) nx = RR := ⟨_, rfl⟩
  rw [hRR]
  have HRXR := Lib.hid (And.intro hRX hRR)
  clear hRX hRR
  subst hW1
  clear h hx hy hN h0 hb hcx hcy hU hw0 hs hsb hlt hnbt hmbt hc1 hc2 hgo hPg hel hex hey htx hty e0 e1 e2 e3 e4 e5 q0 q1 q2 q3 q4 q5 hnb1 hmb1 hnb2 hmb2 hnb3 hmb3 hnb4 hmb4 hL1 hL2 hL3 hL4 hv2 hv3 hb1 hR hR0
  go_enter Tryd.func63, Tryd.ntmps63
  go_upto_region 2 with (go_at_call 60; (with_reducible refine HFr.out.mono ?_); rintro e w2 ⟨rfl, hn2, hg2⟩; have HF2 := Lib.hid (And.intro hn2 hg2); clear hn2 hg2)
  obtain ⟨W3, hW3⟩ : ∃ W3, w2.alloc (.cells #[.int .i64 1, .string ⟨#[]⟩, .string ⟨#[]⟩, .int .u64 0, .int .i64 nx, .slice none 0 0] 25) = W3 := ⟨_, rfl⟩
  obtain ⟨M, hM⟩ : ∃ M, w2.heap.size = M := ⟨_, rfl⟩
  have hb3 : Below w2.heap.size w2 W3 := by rw [← hW3]; exact (Below.refl _ _).alloc (Nat.le_refl _) _
  have HG3 := Lib.hid (show w.grownBy W3 (some N) from grown_trans (grown_below HR.out.1) (grown_trans HF2.out.2 (grown_below hb3)))
  have HM3 := Lib.hid (show TBox W3 M (varT nx) (.slice none 0 0) from by rw [← hW3, ← hM]; exact heap_alloc_new w2 _)
  have HSz := Lib.hid (show R0 < M ∧ N < R0 ∧ W3.heap.size = M + 1 from ⟨by
      have h1 := (HR.out.2.gro HF2.out.2 (by have := HLT.out; omega)).lt
      have := HR0.out
      omega, by have := HLT.out; have := HR0.out; omega, by rw [← hW3, ← hM]; simp⟩)
  have HR3 := Lib.hid (show TBox W3 R0 zeroT (.slice none 0 0) from by
      rw [← HR0.out]
      exact (HR.out.2.gro HF2.out.2 (by have := HLT.out; omega)).below hb3)
  have HN3 := Lib.hid (HF2.out.1.below hb3)
  have HB3 := Lib.hid (HBF.out.go HG3.out)
  have HU3 := Lib.hid (HU.out.1.grown HG3.out HU.out.2)
  rw [hW3]
  rw [hM]
  have hR0w := HR0.out
  rw [hR0w]
  clear hR0w hW3 hM hb3 HF2 HFr HR cF
  have hRX := HRXR.out.1
  have hRR := HRXR.out.2
  have HCx := Lib.hid (fun u (hb : Below W3.heap.size W3 u) => HX.out u P _ _ _ _ _ Q N (nx + 1) (fun b hb2 => ⟨Nat.lt_of_lt_of_le (HB3.out.hP b hb2).1 hb.size, (HB3.out.hP b hb2).2⟩) ((TAtP.gro HEx.out.1 HBF.out.hP HG3.out).below hb (fun b hb2 => (HB3.out.hP b hb2).1)) (HB3.out.x2.below hb (fun b hb2 => (HB3.out.hP b hb2).1))
    (var_at u P (n := nx) (by have := HBd.out; have := sz_pos (.mk k1 n1 m1 b1 v1 ts1); omega)) (HN3.out.below hb) (by have := HBd.out; omega) (by have := HBd.out; have := sz_pos (.mk k4 n4 m4 b4 v4 ts4); omega) HCk.out.1 (HU3.out.below hb) HU.out.2)
  rw [hRX, valT_mk HM.out.2.1.1 HM.out.2.1.2, valT_mk HM.out.2.2.1.1 HM.out.2.2.1.2, show valT (varT nx) (.slice none 0 0) = .agg #[.int .i64 1, .string ⟨#[]⟩, .string ⟨#[]⟩, .int .u64 0, .int .i64 nx, .slice none 0 0] from rfl, show freshV Q = .func (.func 60) #[] #[.pointer (some ⟨Q, 0, none⟩)] from rfl] at HCx
  have HS := Lib.hid (show ∀ z, W3.grownBy z (some N) → (z.cell? ⟨G, 5, none⟩ = some (.slice (some ⟨g, o, none⟩) 2 c) ∧ (z.cell? ⟨g, o, none⟩ = some (.int .i64 k1) ∧ z.cell? ⟨g, o + 1, none⟩ = some (.string nb1) ∧ z.cell? ⟨g, o + 2, none⟩ = some (.string mb1) ∧ z.cell? ⟨g, o + 3, none⟩ = some (.int .u64 b1) ∧ z.cell? ⟨g, o + 4, none⟩ = some (.int .i64 v1) ∧ z.cell? ⟨g, o + 5, none⟩ = some (.slice A1 L1 c1)) ∧ (z.cell? ⟨G1, 0, none⟩ = some (.int .i64 k2) ∧ z.cell? ⟨G1, 1, none⟩ = some (.string nb2) ∧ z.cell? ⟨G1, 2, none⟩ = some (.string mb2) ∧ z.cell? ⟨G1, 3, none⟩ = some (.int .u64 b2) ∧ z.cell? ⟨G1, 4, none⟩ = some (.int .i64 v2) ∧ z.cell? ⟨G1, 5, none⟩ = some (.slice A2 L2 c2)) ∧ (z.cell? ⟨M, 0, none⟩ = some (.int .i64 1) ∧ z.cell? ⟨M, 1, none⟩ = some (.string ⟨#[]⟩) ∧ z.cell? ⟨M, 2, none⟩ = some (.string ⟨#[]⟩) ∧ z.cell? ⟨M, 3, none⟩ = some (.int .u64 0) ∧ z.cell? ⟨M, 4, none⟩ = some (.int .i64 nx) ∧ z.cell? ⟨M, 5, none⟩ = some (.slice none 0 0)) ∧ z.cell? ⟨Fb, 0, none⟩ = some (.func (.func 60) #[] #[.pointer (some ⟨Q, 0, none⟩)])) from fun z hg => by
    have hb := HB3.out.go hg
    have hgb : z.heap[g]? = w.heap[g]? := (hg.block g (Nat.lt_of_lt_of_le HPb.out.1.1 HG3.out.size) (fun e => HPb.out.1.2 (by injection e))).trans (HG3.out.block g HPb.out.1.1 (fun e => HPb.out.1.2 (by injection e)))
    obtain ⟨_, e0, e1, e2, e3, e4, e5⟩ := HEx.out
    exact ⟨(hb.t1.cells HM.out.1.1 HM.out.1.2).2.2.2.2.2, ⟨(World.cell?_of_block (a := ⟨g, o, none⟩) hgb).trans e0, (World.cell?_of_block (a := ⟨g, o + 1, none⟩) hgb).trans e1, (World.cell?_of_block (a := ⟨g, o + 2, none⟩) hgb).trans e2, (World.cell?_of_block (a := ⟨g, o + 3, none⟩) hgb).trans e3, (World.cell?_of_block (a := ⟨g, o + 4, none⟩) hgb).trans e4, (World.cell?_of_block (a := ⟨g, o + 5, none⟩) hgb).trans e5⟩,
      hb.t2.cells HM.out.2.2.1.1 HM.out.2.2.1.2, (HM3.out.gro hg (by have := HSz.out; omega)).cells rfl rfl, cell_of_one hb.t0⟩)
  refine wp_region_wait (fun z => (z.cell? ⟨G, 5, none⟩ = some (.slice (some ⟨g, o, none⟩) 2 c) ∧ (z.cell? ⟨g, o, none⟩ = some (.int .i64 k1) ∧ z.cell? ⟨g, o + 1, none⟩ = some (.string nb1) ∧ z.cell? ⟨g, o + 2, none⟩ = some (.string mb1) ∧ z.cell? ⟨g, o + 3, none⟩ = some (.int .u64 b1) ∧ z.cell? ⟨g, o + 4, none⟩ = some (.int .i64 v1) ∧ z.cell? ⟨g, o + 5, none⟩ = some (.slice A1 L1 c1)) ∧ (z.cell? ⟨G1, 0, none⟩ = some (.int .i64 k2) ∧ z.cell? ⟨G1, 1, none⟩ = some (.string nb2) ∧ z.cell? ⟨G1, 2, none⟩ = some (.string mb2) ∧ z.cell? ⟨G1, 3, none⟩ = some (.int .u64 b2) ∧ z.cell? ⟨G1, 4, none⟩ = some (.int .i64 v2) ∧ z.cell? ⟨G1, 5, none⟩ = some (.slice A2 L2 c2)) ∧ (z.cell? ⟨M, 0, none⟩ = some (.int .i64 1) ∧ z.cell? ⟨M, 1, none⟩ = some (.string ⟨#[]⟩) ∧ z.cell? ⟨M, 2, none⟩ = some (.string ⟨#[]⟩) ∧ z.cell? ⟨M, 3, none⟩ = some (.int .u64 0) ∧ z.cell? ⟨M, 4, none⟩ = some (.int .i64 nx) ∧ z.cell? ⟨M, 5, none⟩ = some (.slice none 0 0)) ∧ z.cell? ⟨Fb, 0, none⟩ = some (.func (.func 60) #[] #[.pointer (some ⟨Q, 0, none⟩)]))) 9 (by kernel_rfl) ?_
  change wpAnyW _ _ _ _ _ _ _ _ _ W3.drew
  have KK := Lib.hid (below_drew' W3)
  generalize W3.drew = u0 at *
  refine wpAnyW_take 9 (i := 0) (v := .pointer (some ⟨G, 5, none⟩)) rfl (by kernel_rfl) (by kernel_rfl) (by kernel_rfl) (by kernel_rfl) (fun _ _ _ h => h) (Or.inl ⟨by rfl, ?_⟩) (HS.out _ (grown_below KK.out)) ?_
  · intro w5 hSw
    obtain ⟨s1, ⟨p0, p1, p2, p3, p4, p5⟩, ⟨q0, q1, q2, q3, q4, q5⟩, ⟨r0, r1, r2, r3, r4, r5⟩, s2⟩ := hSw
    go_simp
  refine wpAnyW_take 9 (i := 1) (v := .slice (some ⟨g, o, none⟩) 2 c) rfl (by kernel_rfl) (by kernel_rfl) (by kernel_rfl) (by kernel_rfl) (fun _ _ _ h => h) (Or.inl ⟨by rfl, ?_⟩) (HS.out _ (grown_below KK.out)) ?_
  · intro w5 hSw
    obtain ⟨s1, ⟨p0, p1, p2, p3, p4, p5⟩, ⟨q0, q1, q2, q3, q4, q5⟩, ⟨r0, r1, r2, r3, r4, r5⟩, s2⟩ := hSw
    go_simp
  refine wpAnyW_take 9 (i := 2) (v := .pointer (some ⟨g, o, none⟩)) rfl (by kernel_rfl) (by kernel_rfl) (by kernel_rfl) (by kernel_rfl) (fun _ _ _ h => h) (Or.inl ⟨by rfl, ?_⟩) (HS.out _ (grown_below KK.out)) ?_
  · intro w5 hSw
    obtain ⟨s1, ⟨p0, p1, p2, p3, p4, p5⟩, ⟨q0, q1, q2, q3, q4, q5⟩, ⟨r0, r1, r2, r3, r4, r5⟩, s2⟩ := hSw
    go_simp
  refine wpAnyW_take 9 (i := 3) (v := .agg #[.int .i64 k1, .string nb1, .string mb1, .int .u64 b1, .int .i64 v1, .slice A1 L1 c1]) rfl (by kernel_rfl) (by kernel_rfl) (by kernel_rfl) (by kernel_rfl) (fun _ _ _ h => h) (Or.inl ⟨by rfl, ?_⟩) (HS.out _ (grown_below KK.out)) ?_
  · intro w5 hSw
    obtain ⟨s1, ⟨p0, p1, p2, p3, p4, p5⟩, ⟨q0, q1, q2, q3, q4, q5⟩, ⟨r0, r1, r2, r3, r4, r5⟩, s2⟩ := hSw
    go_simp
  refine wpAnyW_take 9 (i := 4) (v := .agg #[.int .i64 k2, .string nb2, .string mb2, .int .u64 b2, .int .i64 v2, .slice A2 L2 c2]) rfl (by kernel_rfl) (by kernel_rfl) (by kernel_rfl) (by kernel_rfl) (fun _ _ _ h => h) (Or.inl ⟨by rfl, ?_⟩) (HS.out _ (grown_below KK.out)) ?_
  · intro w5 hSw
    obtain ⟨s1, ⟨p0, p1, p2, p3, p4, p5⟩, ⟨q0, q1, q2, q3, q4, q5⟩, ⟨r0, r1, r2, r3, r4, r5⟩, s2⟩ := hSw
    go_simp
  refine wpAnyW_take 9 (i := 5) (v := .agg #[.int .i64 1, .string ⟨#[]⟩, .string ⟨#[]⟩, .int .u64 0, .int .i64 nx, .slice none 0 0]) rfl (by kernel_rfl) (by kernel_rfl) (by kernel_rfl) (by kernel_rfl) (fun _ _ _ h => h) (Or.inl ⟨by rfl, ?_⟩) (HS.out _ (grown_below KK.out)) ?_
  · intro w5 hSw
    obtain ⟨s1, ⟨p0, p1, p2, p3, p4, p5⟩, ⟨q0, q1, q2, q3, q4, q5⟩, ⟨r0, r1, r2, r3, r4, r5⟩, s2⟩ := hSw
    go_simp
  refine wpAnyW_take 9 (i := 6) (v := .func (.func 60) #[] #[.pointer (some ⟨Q, 0, none⟩)]) rfl (by kernel_rfl) (by kernel_rfl) (by kernel_rfl) (by kernel_rfl) (fun _ _ _ h => h) (Or.inl ⟨by rfl, ?_⟩) (HS.out _ (grown_below KK.out)) ?_
  · intro w5 hSw
    obtain ⟨s1, ⟨p0, p1, p2, p3, p4, p5⟩, ⟨q0, q1, q2, q3, q4, q5⟩, ⟨r0, r1, r2, r3, r4, r5⟩, s2⟩ := hSw
    go_simp
  cases RX with
  | error bt =>
    have hRE : RR = .error bt := by rw [← hRR, seqR_bad hRX]
    subst hRE
    clear hRR hRX
    refine wpAnyW_two (i := 7) (i2 := 8) (by kernel_rfl) rfl rfl (fun K hK => ?_) (fun K hK => ?_)
    · go_simp
      (with_reducible refine (HCx.out _ KK.out).mono ?_)
      rintro e u1 hp
      obtain ⟨hg, bb, rfl, hball⟩ := hp.bad
      exact ⟨rfl, grown_trans HG3.out (grown_trans (grown_below KK.out) hg), bb, rfl, hball⟩
    · go_simp
      have hb : Below u0.heap.size u0 (u0.alloc (.cells #[.int .i64 0, .string ⟨#[]⟩, .string ⟨#[]⟩, .int .u64 0, .int .i64 0, .slice none 0 0] 25)) := (Below.refl _ _).alloc (Nat.le_refl _) _
      replace KK := Lib.hid (KK.out.trans (hb.mono KK.out.size))
      clear hb
      refine hK.out _ _ (fun _ => HS.out _ (grown_below KK.out)) ?_
      generalize u0.alloc (.cells #[.int .i64 0, .string ⟨#[]⟩, .string ⟨#[]⟩, .int .u64 0, .int .i64 0, .slice none 0 0] 25) = u9 at *
      generalize u0.heap.size = AB at *
      refine wpAnyW_one (i := 7) (by kernel_rfl) rfl (fun K hK => ?_)
      go_simp
      (with_reducible refine (HCx.out _ KK.out).mono ?_)
      rintro e u1 hp
      obtain ⟨hg, bb, rfl, hball⟩ := hp.bad
      exact ⟨rfl, grown_trans HG3.out (grown_trans (grown_below KK.out) hg), bb, rfl, hball⟩
  | ok p =>
    obtain ⟨a, n1'⟩ := p
    have hnx := mkB_next hRX
    obtain ⟨k5, n5, m5, b5, v5, ts5⟩ := a
    obtain ⟨nb5, hnb5⟩ : ∃ nb : ByteArray, (⟨n5.toArray⟩ : ByteArray) = nb := ⟨_, rfl⟩
    obtain ⟨mb5, hmb5⟩ : ∃ mb : ByteArray, (⟨m5.toArray⟩ : ByteArray) = mb := ⟨_, rfl⟩
    obtain ⟨L5, hL5⟩ : ∃ L, ts5.length = L := ⟨_, rfl⟩
    obtain ⟨RY, hRY⟩ : ∃ RY, mkB (.mk k4 n4 m4 b4 v4 ts4) (varT nx) (.mk k3 n3 m3 b3 v3 ts3) n1' = RY := ⟨_, rfl⟩
    have HRR := Lib.hid (show seqK s (.mk k5 n5 m5 b5 v5 ts5) RY = RR from by rw [← hRR, seqR_ok hRX, hRY])
    have HL5 := Lib.hid (And.intro hnb5 (And.intro hmb5 hL5))
    have HNx := Lib.hid hnx
    have HRY := Lib.hid hRY
    clear hRR hRX hRY hnb5 hmb5 hL5 hnx
    refine wpAnyW_two (i := 7) (i2 := 8) (by kernel_rfl) rfl rfl (fun K hK => ?_) (fun K hK => ?_) 
    · go_simp
      (with_reducible refine (HCx.out _ KK.out).mono ?_)
      rintro e uc hp
      obtain ⟨A5, c5, rfl, hta, hnu, hg⟩ := hp.letters HL5.out.1 HL5.out.2.1 HL5.out.2.2
      have GG := Lib.hid (grown_trans (grown_below (r := some N) KK.out) hg)
      have KZ := KK.out.size
      have GZ := hg.size
      have HTA := Lib.hid (show TAtP uc (fun b => P b ∨ (R0 < b ∧ b < uc.heap.size)) (.mk k5 n5 m5 b5 v5 ts5) (.slice A5 L5 c5) from hta.wide (fun b hb => by rcases hb with hb | hb; exact .inl hb; exact .inr ⟨by have := HSz.out; omega, hb.2⟩))
      have HNu := Lib.hid hnu
      clear hta hnu hg hp
      refine hK.out _ _ (fun _ => HS.out _ GG.out) ?_
      refine wpAnyW_one (i := 8) (by kernel_rfl) rfl (fun K hK => ?_)
      go_simp
      have hb : Below uc.heap.size uc (uc.alloc (.cells #[.int .i64 0, .string ⟨#[]⟩, .string ⟨#[]⟩, .int .u64 0, .int .i64 0, .slice none 0 0] 25)) := (Below.refl _ _).alloc (Nat.le_refl _) _
      have HAB := Lib.hid (show TBox (uc.alloc (.cells #[.int .i64 0, .string ⟨#[]⟩, .string ⟨#[]⟩, .int .u64 0, .int .i64 0, .slice none 0 0] 25)) uc.heap.size zeroT (.slice none 0 0) ∧ uc.heap.size ≠ N ∧ R0 < uc.heap.size ∧ M < uc.heap.size from ⟨heap_alloc_new uc _, by have := HSz.out; omega, by have := HSz.out; omega, by have := HSz.out; omega⟩)
      have hb9 := hb
      replace HTA := Lib.hid (show TAtP (uc.alloc (.cells #[.int .i64 0, .string ⟨#[]⟩, .string ⟨#[]⟩, .int .u64 0, .int .i64 0, .slice none 0 0] 25)) (fun b => P b ∨ (R0 < b ∧ b < (uc.alloc (.cells #[.int .i64 0, .string ⟨#[]⟩, .string ⟨#[]⟩, .int .u64 0, .int .i64 0, .slice none 0 0] 25)).heap.size ∧ b ≠ uc.heap.size)) (.mk k5 n5 m5 b5 v5 ts5) (.slice A5 L5 c5) from TAtP.keep _ HTA.out (fun b hb => ⟨by rcases hb with hb | hb; exact .inl hb; exact .inr ⟨hb.1, Nat.lt_of_lt_of_le hb.2 hb9.size, by omega⟩, hb9.block b (by rcases hb with hb | hb; exact Nat.lt_of_lt_of_le (HB3.out.hP b hb).1 (by omega); exact hb.2)⟩))
      replace HNu := Lib.hid (HNu.out.below hb)
      replace GG := Lib.hid (grown_trans GG.out (grown_below hb))
      clear hb9
      clear hb
      refine hK.out _ _ (fun _ => HS.out _ GG.out) ?_
      generalize uc.alloc (.cells #[.int .i64 0, .string ⟨#[]⟩, .string ⟨#[]⟩, .int .u64 0, .int .i64 0, .slice none 0 0] 25) = ua at *
      generalize uc.heap.size = AB at *
      refine wpAnyW_one (i := 9) (by kernel_rfl) rfl (fun K hK => ?_)
      obtain ⟨d0, d1, d2, d3, d4, d5⟩ := HAB.out.1.cells rfl rfl
      obtain ⟨f0, f1, f2, f3, f4, f5⟩ := HAB.out.1.frozens
      go_simp
      refine hK.out _ _ (fun h => absurd h (by simp)) ?_
      refine wpAnyW_done (by kernel_rfl) ?_ _
      obtain ⟨hbx, hgr⟩ := HAB.out.1.set6 (k := k5) (b := b5) (v := v5) (n := n5) (m := m5) ts5 (.slice A5 L5 c5) HL5.out.1 HL5.out.2.1
      generalize (((((ua.setCell ⟨AB, 0, none⟩ (.int .i64 k5)).setCell ⟨AB, 1, none⟩ (.string nb5)).setCell ⟨AB, 2, none⟩ (.string mb5)).setCell ⟨AB, 3, none⟩ (.int .u64 b5)).setCell ⟨AB, 4, none⟩ (.int .i64 v5)).setCell ⟨AB, 5, none⟩ (.slice A5 L5 c5) = w5 at *
      have hAB := HAB.out.2
      have hsz := HSz.out
      have hR0 := HR0.out
      have hlt := HLT.out
      have HG5 := Lib.hid (show w.grownBy w5 (some N) from gb_new (grown_trans HG3.out GG.out) hgr (by omega))
      have HB5 := Lib.hid (HBF.out.go HG5.out)
      have HM5 := Lib.hid (show TBox w5 M (varT nx) (.slice none 0 0) from (HM3.out.gro GG.out (by omega)).gro hgr (by omega))
      have HR5 := Lib.hid (show TBox w5 R0 zeroT (.slice none 0 0) from (HR3.out.gro GG.out (by omega)).gro hgr (by omega))
      have HN5 := Lib.hid (HNu.out.gro hgr (by omega) (by omega))
      have HT5 := Lib.hid (show TAtP w5 (fun b => P b ∨ (R0 < b ∧ b < w5.heap.size)) (.mk k5 n5 m5 b5 v5 ts5) (.slice A5 L5 c5) from TAtP.keep _ HTA.out (fun b hb => ⟨by rcases hb with hb | hb; exact .inl hb; exact .inr ⟨hb.1, Nat.lt_of_lt_of_le hb.2.1 hgr.size⟩, hgr.block b (by rcases hb with hb | hb; exact Nat.lt_of_lt_of_le (HB3.out.hP b hb).1 GG.out.size; exact hb.2.1) (fun e => by injection e with e; rcases hb with hb | hb; have := (HBF.out.hP b hb).1; omega; omega)⟩))
      have HU5 := Lib.hid (HU.out.1.grown HG5.out HU.out.2)
      obtain ⟨a0, a1, a2, a3, a4, a5⟩ := hbx.cells HL5.out.1 HL5.out.2.1
      have t5 := (HB5.out.t1.cells HM.out.1.1 HM.out.1.2).2.2.2.2.2
      have hgb : w5.heap[g]? = w.heap[g]? := HG5.out.block g HPb.out.1.1 (fun e => HPb.out.1.2 (by injection e))
      obtain ⟨_, q0, q1, q2, q3, q4, q5⟩ := HEy.out
      replace q0 := (World.cell?_of_block (a := ⟨g, o + 6, none⟩) hgb).trans q0
      replace q1 := (World.cell?_of_block (a := ⟨g, o + 6 + 1, none⟩) hgb).trans q1
      replace q2 := (World.cell?_of_block (a := ⟨g, o + 6 + 2, none⟩) hgb).trans q2
      replace q3 := (World.cell?_of_block (a := ⟨g, o + 6 + 3, none⟩) hgb).trans q3
      replace q4 := (World.cell?_of_block (a := ⟨g, o + 6 + 4, none⟩) hgb).trans q4
      replace q5 := (World.cell?_of_block (a := ⟨g, o + 6 + 5, none⟩) hgb).trans q5
      obtain ⟨r0, r1, r2, r3, r4, r5⟩ := HM5.out.cells (nb := ⟨#[]⟩) (mb := ⟨#[]⟩) rfl rfl
      obtain ⟨y0, y1, y2, y3, y4, y5⟩ := HB5.out.t3.cells HM.out.2.2.2.1.1 HM.out.2.2.2.1.2
      have cF := cell_of_one HB5.out.t0
      have HCy := Lib.hid (fun u (hb : Below w5.heap.size w5 u) => HY.out u P _ _ _ _ _ Q N n1' (fun b hb2 => ⟨Nat.lt_of_lt_of_le (HB5.out.hP b hb2).1 hb.size, (HB5.out.hP b hb2).2⟩) ((TAtP.gro HEy.out.1 HBF.out.hP HG5.out).below hb (fun b hb2 => (HB5.out.hP b hb2).1))
        (var_at u P (n := nx) (by have := HBd.out; have := sz_pos (.mk k1 n1 m1 b1 v1 ts1); omega)) (HB5.out.x3.below hb (fun b hb2 => (HB5.out.hP b hb2).1)) (HN5.out.below hb) (by have := HBd.out; have := HNx.out; omega) (by have := HBd.out; have := HNx.out; omega) HCk.out.2 (HU5.out.below hb) HU.out.2)
      rw [HRY.out, valT_mk HM.out.2.2.2.2.1 HM.out.2.2.2.2.2, valT_mk HM.out.2.2.2.1.1 HM.out.2.2.2.1.2, show valT (varT nx) (.slice none 0 0) = .agg #[.int .i64 1, .string ⟨#[]⟩, .string ⟨#[]⟩, .int .u64 0, .int .i64 nx, .slice none 0 0] from rfl, show freshV Q = .func (.func 60) #[] #[.pointer (some ⟨Q, 0, none⟩)] from rfl] at HCy
      have HS3 := Lib.hid (show ∀ z, w5.grownBy z (some N) → ((z.cell? ⟨AB, 0, none⟩ = some (.int .i64 k5) ∧ z.cell? ⟨AB, 1, none⟩ = some (.string nb5) ∧ z.cell? ⟨AB, 2, none⟩ = some (.string mb5) ∧ z.cell? ⟨AB, 3, none⟩ = some (.int .u64 b5) ∧ z.cell? ⟨AB, 4, none⟩ = some (.int .i64 v5) ∧ z.cell? ⟨AB, 5, none⟩ = some (.slice A5 L5 c5)) ∧ z.cell? ⟨G, 5, none⟩ = some (.slice (some ⟨g, o, none⟩) 2 c) ∧ (z.cell? ⟨g, o + 6, none⟩ = some (.int .i64 k4) ∧ z.cell? ⟨g, o + 6 + 1, none⟩ = some (.string nb4) ∧ z.cell? ⟨g, o + 6 + 2, none⟩ = some (.string mb4) ∧ z.cell? ⟨g, o + 6 + 3, none⟩ = some (.int .u64 b4) ∧ z.cell? ⟨g, o + 6 + 4, none⟩ = some (.int .i64 v4) ∧ z.cell? ⟨g, o + 6 + 5, none⟩ = some (.slice A4 L4 c4)) ∧ (z.cell? ⟨M, 0, none⟩ = some (.int .i64 1) ∧ z.cell? ⟨M, 1, none⟩ = some (.string ⟨#[]⟩) ∧ z.cell? ⟨M, 2, none⟩ = some (.string ⟨#[]⟩) ∧ z.cell? ⟨M, 3, none⟩ = some (.int .u64 0) ∧ z.cell? ⟨M, 4, none⟩ = some (.int .i64 nx) ∧ z.cell? ⟨M, 5, none⟩ = some (.slice none 0 0)) ∧ (z.cell? ⟨G2, 0, none⟩ = some (.int .i64 k3) ∧ z.cell? ⟨G2, 1, none⟩ = some (.string nb3) ∧ z.cell? ⟨G2, 2, none⟩ = some (.string mb3) ∧ z.cell? ⟨G2, 3, none⟩ = some (.int .u64 b3) ∧ z.cell? ⟨G2, 4, none⟩ = some (.int .i64 v3) ∧ z.cell? ⟨G2, 5, none⟩ = some (.slice A3 L3 c3)) ∧ z.cell? ⟨Fb, 0, none⟩ = some (.func (.func 60) #[] #[.pointer (some ⟨Q, 0, none⟩)])) from fun z hg => by
        have hb := HB5.out.go hg
        have hz : z.heap[g]? = w5.heap[g]? := hg.block g (Nat.lt_of_lt_of_le HPb.out.1.1 HG5.out.size) (fun e => HPb.out.1.2 (by injection e))
        exact ⟨(TBox.gro hbx hg (by omega)).cells HL5.out.1 HL5.out.2.1, (hb.t1.cells HM.out.1.1 HM.out.1.2).2.2.2.2.2, ⟨(World.cell?_of_block (a := ⟨g, o + 6, none⟩) hz).trans q0, (World.cell?_of_block (a := ⟨g, o + 6 + 1, none⟩) hz).trans q1, (World.cell?_of_block (a := ⟨g, o + 6 + 2, none⟩) hz).trans q2, (World.cell?_of_block (a := ⟨g, o + 6 + 3, none⟩) hz).trans q3, (World.cell?_of_block (a := ⟨g, o + 6 + 4, none⟩) hz).trans q4, (World.cell?_of_block (a := ⟨g, o + 6 + 5, none⟩) hz).trans q5⟩,
          (HM5.out.gro hg (by omega)).cells rfl rfl, hb.t3.cells HM.out.2.2.2.1.1 HM.out.2.2.2.1.2, cell_of_one hb.t0⟩)
      clear hAB hsz hR0 hlt hbx hgr hgb KK GG HAB HTA HNu HCx HS HRY a0 a1 a2 a3 a4 a5 t5 q0 q1 q2 q3 q4 q5 r0 r1 r2 r3 r4 r5 y0 y1 y2 y3 y4 y5 cF
      go_upto_region 3 with fail
      refine wp_region_wait (fun z => ((z.cell? ⟨AB, 0, none⟩ = some (.int .i64 k5) ∧ z.cell? ⟨AB, 1, none⟩ = some (.string nb5) ∧ z.cell? ⟨AB, 2, none⟩ = some (.string mb5) ∧ z.cell? ⟨AB, 3, none⟩ = some (.int .u64 b5) ∧ z.cell? ⟨AB, 4, none⟩ = some (.int .i64 v5) ∧ z.cell? ⟨AB, 5, none⟩ = some (.slice A5 L5 c5)) ∧ z.cell? ⟨G, 5, none⟩ = some (.slice (some ⟨g, o, none⟩) 2 c) ∧ (z.cell? ⟨g, o + 6, none⟩ = some (.int .i64 k4) ∧ z.cell? ⟨g, o + 6 + 1, none⟩ = some (.string nb4) ∧ z.cell? ⟨g, o + 6 + 2, none⟩ = some (.string mb4) ∧ z.cell? ⟨g, o + 6 + 3, none⟩ = some (.int .u64 b4) ∧ z.cell? ⟨g, o + 6 + 4, none⟩ = some (.int .i64 v4) ∧ z.cell? ⟨g, o + 6 + 5, none⟩ = some (.slice A4 L4 c4)) ∧ (z.cell? ⟨M, 0, none⟩ = some (.int .i64 1) ∧ z.cell? ⟨M, 1, none⟩ = some (.string ⟨#[]⟩) ∧ z.cell? ⟨M, 2, none⟩ = some (.string ⟨#[]⟩) ∧ z.cell? ⟨M, 3, none⟩ = some (.int .u64 0) ∧ z.cell? ⟨M, 4, none⟩ = some (.int .i64 nx) ∧ z.cell? ⟨M, 5, none⟩ = some (.slice none 0 0)) ∧ (z.cell? ⟨G2, 0, none⟩ = some (.int .i64 k3) ∧ z.cell? ⟨G2, 1, none⟩ = some (.string nb3) ∧ z.cell? ⟨G2, 2, none⟩ = some (.string mb3) ∧ z.cell? ⟨G2, 3, none⟩ = some (.int .u64 b3) ∧ z.cell? ⟨G2, 4, none⟩ = some (.int .i64 v3) ∧ z.cell? ⟨G2, 5, none⟩ = some (.slice A3 L3 c3)) ∧ z.cell? ⟨Fb, 0, none⟩ = some (.func (.func 60) #[] #[.pointer (some ⟨Q, 0, none⟩)]))) 12 (by kernel_rfl) ?_
      change wpAnyW _ _ _ _ _ _ _ _ _ w5.drew
      have KY := Lib.hid (below_drew' w5)
      generalize w5.drew = v0 at *
      refine wpAnyW_take 12 (i := 0) (v := .string sb) rfl (by kernel_rfl) (by kernel_rfl) (by kernel_rfl) (by kernel_rfl) (fun _ _ _ h => h) (Or.inl ⟨by rfl, ?_⟩) (HS3.out _ (grown_below KY.out)) ?_
      · intro w5 hSw
        obtain ⟨⟨a0, a1, a2, a3, a4, a5⟩, s1, ⟨q0, q1, q2, q3, q4, q5⟩, ⟨r0, r1, r2, r3, r4, r5⟩, ⟨y0, y1, y2, y3, y4, y5⟩, s2⟩ := hSw
        go_simp
      refine wpAnyW_take 12 (i := 1) (v := .agg #[.int .i64 k5, .string nb5, .string mb5, .int .u64 b5, .int .i64 v5, .slice A5 L5 c5]) rfl (by kernel_rfl) (by kernel_rfl) (by kernel_rfl) (by kernel_rfl) (fun _ _ _ h => h) (Or.inl ⟨by rfl, ?_⟩) (HS3.out _ (grown_below KY.out)) ?_
      · intro w5 hSw
        obtain ⟨⟨a0, a1, a2, a3, a4, a5⟩, s1, ⟨q0, q1, q2, q3, q4, q5⟩, ⟨r0, r1, r2, r3, r4, r5⟩, ⟨y0, y1, y2, y3, y4, y5⟩, s2⟩ := hSw
        go_simp
      refine wpAnyW_take 12 (i := 2) (v := .pointer (some ⟨G, 5, none⟩)) rfl (by kernel_rfl) (by kernel_rfl) (by kernel_rfl) (by kernel_rfl) (fun _ _ _ h => h) (Or.inl ⟨by rfl, ?_⟩) (HS3.out _ (grown_below KY.out)) ?_
      · intro w5 hSw
        obtain ⟨⟨a0, a1, a2, a3, a4, a5⟩, s1, ⟨q0, q1, q2, q3, q4, q5⟩, ⟨r0, r1, r2, r3, r4, r5⟩, ⟨y0, y1, y2, y3, y4, y5⟩, s2⟩ := hSw
        go_simp
      refine wpAnyW_take 12 (i := 3) (v := .slice (some ⟨g, o, none⟩) 2 c) rfl (by kernel_rfl) (by kernel_rfl) (by kernel_rfl) (by kernel_rfl) (fun _ _ _ h => h) (Or.inl ⟨by rfl, ?_⟩) (HS3.out _ (grown_below KY.out)) ?_
      · intro w5 hSw
        obtain ⟨⟨a0, a1, a2, a3, a4, a5⟩, s1, ⟨q0, q1, q2, q3, q4, q5⟩, ⟨r0, r1, r2, r3, r4, r5⟩, ⟨y0, y1, y2, y3, y4, y5⟩, s2⟩ := hSw
        go_simp
      refine wpAnyW_take 12 (i := 4) (v := .pointer (some ⟨g, o + 6, none⟩)) rfl (by kernel_rfl) (by kernel_rfl) (by kernel_rfl) (by kernel_rfl) (fun _ _ _ h => h) (Or.inl ⟨by rfl, ?_⟩) (HS3.out _ (grown_below KY.out)) ?_
      · intro w5 hSw
        obtain ⟨⟨a0, a1, a2, a3, a4, a5⟩, s1, ⟨q0, q1, q2, q3, q4, q5⟩, ⟨r0, r1, r2, r3, r4, r5⟩, ⟨y0, y1, y2, y3, y4, y5⟩, s2⟩ := hSw
        go_simp
      refine wpAnyW_take 12 (i := 5) (v := .agg #[.int .i64 k4, .string nb4, .string mb4, .int .u64 b4, .int .i64 v4, .slice A4 L4 c4]) rfl (by kernel_rfl) (by kernel_rfl) (by kernel_rfl) (by kernel_rfl) (fun _ _ _ h => h) (Or.inl ⟨by rfl, ?_⟩) (HS3.out _ (grown_below KY.out)) ?_
      · intro w5 hSw
        obtain ⟨⟨a0, a1, a2, a3, a4, a5⟩, s1, ⟨q0, q1, q2, q3, q4, q5⟩, ⟨r0, r1, r2, r3, r4, r5⟩, ⟨y0, y1, y2, y3, y4, y5⟩, s2⟩ := hSw
        go_simp
      refine wpAnyW_take 12 (i := 6) (v := .agg #[.int .i64 1, .string ⟨#[]⟩, .string ⟨#[]⟩, .int .u64 0, .int .i64 nx, .slice none 0 0]) rfl (by kernel_rfl) (by kernel_rfl) (by kernel_rfl) (by kernel_rfl) (fun _ _ _ h => h) (Or.inl ⟨by rfl, ?_⟩) (HS3.out _ (grown_below KY.out)) ?_
      · intro w5 hSw
        obtain ⟨⟨a0, a1, a2, a3, a4, a5⟩, s1, ⟨q0, q1, q2, q3, q4, q5⟩, ⟨r0, r1, r2, r3, r4, r5⟩, ⟨y0, y1, y2, y3, y4, y5⟩, s2⟩ := hSw
        go_simp
      refine wpAnyW_take 12 (i := 7) (v := .agg #[.int .i64 k3, .string nb3, .string mb3, .int .u64 b3, .int .i64 v3, .slice A3 L3 c3]) rfl (by kernel_rfl) (by kernel_rfl) (by kernel_rfl) (by kernel_rfl) (fun _ _ _ h => h) (Or.inl ⟨by rfl, ?_⟩) (HS3.out _ (grown_below KY.out)) ?_
      · intro w5 hSw
        obtain ⟨⟨a0, a1, a2, a3, a4, a5⟩, s1, ⟨q0, q1, q2, q3, q4, q5⟩, ⟨r0, r1, r2, r3, r4, r5⟩, ⟨y0, y1, y2, y3, y4, y5⟩, s2⟩ := hSw
        go_simp
      refine wpAnyW_take 12 (i := 8) (v := .func (.func 60) #[] #[.pointer (some ⟨Q, 0, none⟩)]) rfl (by kernel_rfl) (by kernel_rfl) (by kernel_rfl) (by kernel_rfl) (fun _ _ _ h => h) (Or.inl ⟨by rfl, ?_⟩) (HS3.out _ (grown_below KY.out)) ?_
      · intro w5 hSw
        obtain ⟨⟨a0, a1, a2, a3, a4, a5⟩, s1, ⟨q0, q1, q2, q3, q4, q5⟩, ⟨r0, r1, r2, r3, r4, r5⟩, ⟨y0, y1, y2, y3, y4, y5⟩, s2⟩ := hSw
        go_simp
      cases RY with
      | error bt =>
        have hRE := HRR.out
        change Except.error bt = RR at hRE
        subst hRE
        refine wpAnyW_one (i := 9) (by kernel_rfl) rfl (fun K hK => ?_)
        go_simp
        (with_reducible refine (HCy.out _ KY.out).mono ?_)
        rintro e u1 hp
        obtain ⟨hg, bb, rfl, hball⟩ := hp.bad
        exact ⟨rfl, grown_trans HG5.out (grown_trans (grown_below KY.out) hg), bb, rfl, hball⟩
      | ok pp =>
        obtain ⟨cc, n2'⟩ := pp
        obtain ⟨k6, n6, m6, b6, v6, ts6⟩ := cc
        obtain ⟨nb6, hnb6⟩ : ∃ nb : ByteArray, (⟨n6.toArray⟩ : ByteArray) = nb := ⟨_, rfl⟩
        obtain ⟨mb6, hmb6⟩ : ∃ mb : ByteArray, (⟨m6.toArray⟩ : ByteArray) = mb := ⟨_, rfl⟩
        obtain ⟨L6, hL6⟩ : ∃ L, ts6.length = L := ⟨_, rfl⟩
        have HL6 := Lib.hid (And.intro hnb6 (And.intro hmb6 hL6))
        have hRE := HRR.out
        change Except.ok (cmpT s [.mk k5 n5 m5 b5 v5 ts5, .mk k6 n6 m6 b6 v6 ts6], n2') = RR at hRE
        have HRE := Lib.hid hRE
        clear hnb6 hmb6 hL6 hRE
        refine wpAnyW_one (i := 9) (by kernel_rfl) rfl (fun K hK => ?_)
        go_simp
        (with_reducible refine (HCy.out _ KY.out).mono ?_)
        rintro e w6 hp
        obtain ⟨A6, c6, rfl, hta6, hnu6, hg60⟩ := hp.letters HL6.out.1 HL6.out.2.1 HL6.out.2.2
        have hg6 := grown_trans (grown_below (r := some N) KY.out) hg60
        have HG6 := Lib.hid hg6
        refine hK.out _ _ (fun _ => HS3.out _ HG6.out) ?_
        have hv0 := KY.out.size
        have hP6 : ∀ b, (P b ∨ (R0 < b ∧ b < w6.heap.size)) → b < w6.heap.size := fun b hb => by
          rcases hb with hb | hb
          · exact Nat.lt_of_lt_of_le (HB5.out.hP b hb).1 hg6.size
          · exact hb.2
        have ht5 : TAtP w6 (fun b => P b ∨ (R0 < b ∧ b < w6.heap.size)) (.mk k5 n5 m5 b5 v5 ts5) (.slice A5 L5 c5) := TAtP.keep _ HT5.out (fun b hb => ⟨by rcases hb with hb | hb; exact .inl hb; exact .inr ⟨hb.1, Nat.lt_of_lt_of_le hb.2 hg6.size⟩, hg6.block b (by rcases hb with hb | hb; exact (HB5.out.hP b hb).1; exact hb.2) (fun e => by injection e with e; rcases hb with hb | hb; exact (HBF.out.hP b hb).2 e; have := HSz.out; omega)⟩)
        have h5s := HR5.out.lt
        have ht6 : TAtP w6 (fun b => P b ∨ (R0 < b ∧ b < w6.heap.size)) (.mk k6 n6 m6 b6 v6 ts6) (.slice A6 L6 c6) := hta6.wide (fun b hb => by
          rcases hb with hb | hb
          · exact .inl hb
          · exact .inr ⟨by omega, hb.2⟩)
        have hbu := built (w := w6) (s := s) (n := 2) (cs := #[.int .i64 k5, .string nb5, .string mb5, .int .u64 b5, .int .i64 v5, .slice A5 L5 c5, .int .i64 k6, .string nb6, .string mb6, .int .u64 b6, .int .i64 v6, .slice A6 L6 c6]) (ps := [((.mk k5 n5 m5 b5 v5 ts5 : Tm), Value.slice A5 L5 c5), ((.mk k6 n6 m6 b6 v6 ts6 : Tm), Value.slice A6 L6 c6)]) (by rw [← HL5.out.1, ← HL5.out.2.1, ← HL6.out.1, ← HL6.out.2.1]; rfl) rfl (mem2 ht5 ht6) hP6 (by unfold maxArgs; omega) HSs.out.1
        have hb7 : Below w6.heap.size w6 (w6.alloc (.cells #[.int .i64 k5, .string nb5, .string mb5, .int .u64 b5, .int .i64 v5, .slice A5 L5 c5, .int .i64 k6, .string nb6, .string mb6, .int .u64 b6, .int .i64 v6, .slice A6 L6 c6] 25)) := (Below.refl _ _).alloc (Nat.le_refl _) _
        have hs7 : (w6.alloc (.cells #[.int .i64 k5, .string nb5, .string mb5, .int .u64 b5, .int .i64 v5, .slice A5 L5 c5, .int .i64 k6, .string nb6, .string mb6, .int .u64 b6, .int .i64 v6, .slice A6 L6 c6] 25)).heap.size = w6.heap.size + 1 := by simp
        have HX6 := Lib.hid (And.intro hP6 (And.intro hbu (And.intro hb7 (And.intro hs7 hnu6))))
        clear hP6 ht5 ht6 hbu hb7 hs7 hta6 hnu6 hg6 hg60 hp h5s hv0
        refine wpAnyW_one (i := 10) (by kernel_rfl) rfl (fun K hK => ?_)
        go_simp
        refine hK.out _ _ (fun _ => HS3.out _ (grown_trans HG6.out (grown_below HX6.out.2.2.1))) ?_
        generalize w6.alloc (.cells #[.int .i64 k5, .string nb5, .string mb5, .int .u64 b5, .int .i64 v5, .slice A5 L5 c5, .int .i64 k6, .string nb6, .string mb6, .int .u64 b6, .int .i64 v6, .slice A6 L6 c6] 25) = w7 at *
        refine wpAnyW_one (i := 11) (by kernel_rfl) rfl (fun K hK => ?_)
        go_simp
        (with_reducible refine (of_any _ _ _ _ _).mono ?_)
        rintro e w8 ⟨rfl, hb8⟩
        have HE8 := Lib.hid hb8
        refine hK.out _ _ (fun _ => HS3.out _ (grown_trans HG6.out (grown_below (HX6.out.2.2.1.trans (hb8.mono HX6.out.2.2.1.size))))) ?_
        have HR8 := Lib.hid ((HR5.out.gro HG6.out (by have := HSz.out; omega)).below (HX6.out.2.2.1.trans (hb8.mono HX6.out.2.2.1.size)))
        clear hb8
        refine wpAnyW_one (i := 12) (by kernel_rfl) rfl (fun K hK => ?_)
        obtain ⟨z0, z1, z2, z3, z4, z5⟩ := HR8.out.cells rfl rfl
        obtain ⟨f0, f1, f2, f3, f4, f5⟩ := HR8.out.frozens
        go_simp
        refine hK.out _ _ (fun h => absurd h (by simp)) ?_
        refine wpAnyW_done (by kernel_rfl) ?_ _
        clear z0 z1 z2 z3 z4 z5 f0 f1 f2 f3 f4 f5
        go_wp2
        obtain ⟨hP6, hbu, hb7, hs7, hnu6⟩ := HX6.out
        have hg6 := HG6.out
        have hb8 := HE8.out
        have h5s := HR5.out.lt
        obtain ⟨hbx, hgr⟩ := HR8.out.set6 (k := 5) (b := 0) (v := 0) (n := s) (m := []) [.mk k5 n5 m5 b5 v5 ts5, .mk k6 n6 m6 b6 v6 ts6] (.slice (some ⟨w6.heap.size, 0, none⟩) 2 2) HSs.out.2 rfl
        generalize (((((w8.setCell ⟨R0, 0, none⟩ (.int .i64 5)).setCell ⟨R0, 1, none⟩ (.string sb)).setCell ⟨R0, 2, none⟩ (.string ⟨#[]⟩)).setCell ⟨R0, 3, none⟩ (.int .u64 0)).setCell ⟨R0, 4, none⟩ (.int .i64 0)).setCell ⟨R0, 5, none⟩ (.slice (some ⟨w6.heap.size, 0, none⟩) 2 2) = w9 at *
        obtain ⟨r0, r1, r2, r3, r4, r5⟩ := hbx.cells HSs.out.2 rfl
        have hR0 := HR0.out
        have hsz := HSz.out
        have hs6 := hg6.size
        have hs8 := hb8.size
        refine bodyPost_ret (v := .agg #[.int .i64 5, .string sb, .string ⟨#[]⟩, .int .u64 0, .int .i64 0, .slice (some ⟨w6.heap.size, 0, none⟩) 2 2]) (by simp [results, Tryd.results63, go_sem, r0, r1, r2, r3, r4, r5]) rfl ?_
        rw [← HRE.out]
        refine ⟨?_, ⟨_, congrArg Ending.returned (valT_mk HSs.out.2 rfl).symm, ?_⟩, ?_⟩
        · exact gb_new (grown_trans HG5.out (grown_trans hg6 (grown_below (hb7.trans (hb8.mono (by omega)))))) hgr (by omega)
        · refine TAtP.keep _ hbu (fun b hb => ?_)
          have hb1 : b < w7.heap.size := by rcases hb with hb | hb; have := hP6 b hb; omega; omega
          refine ⟨?_, (hgr.block b (by omega) (fun e => ?_)).trans (hb8.block b hb1)⟩
          · rcases hb with hb | hb
            · rcases hb with hb | hb
              · exact .inl hb
              · exact .inr ⟨by omega, by have := hgr.size; omega⟩
            · exact .inr ⟨by omega, by have := hgr.size; omega⟩
          · injection e with e
            rcases hb with hb | hb
            · rcases hb with hb | hb
              · have := (HBF.out.hP b hb).1; omega
              · omega
            · omega
        · exact ((hnu6.below (hb7.trans (hb8.mono (by omega)))).gro hgr (by have := HLT.out; omega) (by omega))
    · go_simp
      have hb : Below u0.heap.size u0 (u0.alloc (.cells #[.int .i64 0, .string ⟨#[]⟩, .string ⟨#[]⟩, .int .u64 0, .int .i64 0, .slice none 0 0] 25)) := (Below.refl _ _).alloc (Nat.le_refl _) _
      have HAB := Lib.hid (show TBox (u0.alloc (.cells #[.int .i64 0, .string ⟨#[]⟩, .string ⟨#[]⟩, .int .u64 0, .int .i64 0, .slice none 0 0] 25)) u0.heap.size zeroT (.slice none 0 0) ∧ u0.heap.size ≠ N ∧ R0 < u0.heap.size ∧ M < u0.heap.size from ⟨heap_alloc_new u0 _, by have := HSz.out; have := KK.out.size; omega, by have := HSz.out; have := KK.out.size; omega, by have := HSz.out; have := KK.out.size; omega⟩)
      replace KK := Lib.hid (KK.out.trans (hb.mono KK.out.size))
      clear hb
      refine hK.out _ _ (fun _ => HS.out _ (grown_below KK.out)) ?_
      generalize u0.alloc (.cells #[.int .i64 0, .string ⟨#[]⟩, .string ⟨#[]⟩, .int .u64 0, .int .i64 0, .slice none 0 0] 25) = ua at *
      generalize u0.heap.size = AB at *
      refine wpAnyW_one (i := 7) (by kernel_rfl) rfl (fun K hK => ?_)
      go_simp
      (with_reducible refine (HCx.out _ KK.out).mono ?_)
      rintro e uc hp
      obtain ⟨A5, c5, rfl, hta, hnu, hg⟩ := hp.letters HL5.out.1 HL5.out.2.1 HL5.out.2.2
      have GG := Lib.hid (grown_trans (grown_below (r := some N) KK.out) hg)
      have KZ := KK.out.size
      have GZ := hg.size
      have HTA := Lib.hid (show TAtP uc (fun b => P b ∨ (R0 < b ∧ b < uc.heap.size ∧ b ≠ AB)) (.mk k5 n5 m5 b5 v5 ts5) (.slice A5 L5 c5) from hta.wide (fun b hb => by rcases hb with hb | hb; exact .inl hb; exact .inr ⟨by have := HSz.out; omega, hb.2, by have := HAB.out.1.lt; omega⟩))
      have HNu := Lib.hid hnu
      replace HAB := Lib.hid (show TBox uc AB zeroT (.slice none 0 0) ∧ AB ≠ N ∧ R0 < AB ∧ M < AB from ⟨HAB.out.1.gro hg HAB.out.2.1, HAB.out.2⟩)
      clear hta hnu hg hp
      refine hK.out _ _ (fun _ => HS.out _ GG.out) ?_
      refine wpAnyW_one (i := 9) (by kernel_rfl) rfl (fun K hK => ?_)
      obtain ⟨d0, d1, d2, d3, d4, d5⟩ := HAB.out.1.cells rfl rfl
      obtain ⟨f0, f1, f2, f3, f4, f5⟩ := HAB.out.1.frozens
      go_simp
      refine hK.out _ _ (fun h => absurd h (by simp)) ?_
      refine wpAnyW_done (by kernel_rfl) ?_ _
      obtain ⟨hbx, hgr⟩ := HAB.out.1.set6 (k := k5) (b := b5) (v := v5) (n := n5) (m := m5) ts5 (.slice A5 L5 c5) HL5.out.1 HL5.out.2.1
      generalize (((((uc.setCell ⟨AB, 0, none⟩ (.int .i64 k5)).setCell ⟨AB, 1, none⟩ (.string nb5)).setCell ⟨AB, 2, none⟩ (.string mb5)).setCell ⟨AB, 3, none⟩ (.int .u64 b5)).setCell ⟨AB, 4, none⟩ (.int .i64 v5)).setCell ⟨AB, 5, none⟩ (.slice A5 L5 c5) = w5 at *
      have hAB := HAB.out.2
      have hsz := HSz.out
      have hR0 := HR0.out
      have hlt := HLT.out
      have HG5 := Lib.hid (show w.grownBy w5 (some N) from gb_new (grown_trans HG3.out GG.out) hgr (by omega))
      have HB5 := Lib.hid (HBF.out.go HG5.out)
      have HM5 := Lib.hid (show TBox w5 M (varT nx) (.slice none 0 0) from (HM3.out.gro GG.out (by omega)).gro hgr (by omega))
      have HR5 := Lib.hid (show TBox w5 R0 zeroT (.slice none 0 0) from (HR3.out.gro GG.out (by omega)).gro hgr (by omega))
      have HN5 := Lib.hid (HNu.out.gro hgr (by omega) (by omega))
      have HT5 := Lib.hid (show TAtP w5 (fun b => P b ∨ (R0 < b ∧ b < w5.heap.size)) (.mk k5 n5 m5 b5 v5 ts5) (.slice A5 L5 c5) from TAtP.keep _ HTA.out (fun b hb => ⟨by rcases hb with hb | hb; exact .inl hb; exact .inr ⟨hb.1, Nat.lt_of_lt_of_le hb.2.1 hgr.size⟩, hgr.block b (by rcases hb with hb | hb; exact Nat.lt_of_lt_of_le (HB3.out.hP b hb).1 GG.out.size; exact hb.2.1) (fun e => by injection e with e; rcases hb with hb | hb; have := (HBF.out.hP b hb).1; omega; omega)⟩))
      have HU5 := Lib.hid (HU.out.1.grown HG5.out HU.out.2)
      obtain ⟨a0, a1, a2, a3, a4, a5⟩ := hbx.cells HL5.out.1 HL5.out.2.1
      have t5 := (HB5.out.t1.cells HM.out.1.1 HM.out.1.2).2.2.2.2.2
      have hgb : w5.heap[g]? = w.heap[g]? := HG5.out.block g HPb.out.1.1 (fun e => HPb.out.1.2 (by injection e))
      obtain ⟨_, q0, q1, q2, q3, q4, q5⟩ := HEy.out
      replace q0 := (World.cell?_of_block (a := ⟨g, o + 6, none⟩) hgb).trans q0
      replace q1 := (World.cell?_of_block (a := ⟨g, o + 6 + 1, none⟩) hgb).trans q1
      replace q2 := (World.cell?_of_block (a := ⟨g, o + 6 + 2, none⟩) hgb).trans q2
      replace q3 := (World.cell?_of_block (a := ⟨g, o + 6 + 3, none⟩) hgb).trans q3
      replace q4 := (World.cell?_of_block (a := ⟨g, o + 6 + 4, none⟩) hgb).trans q4
      replace q5 := (World.cell?_of_block (a := ⟨g, o + 6 + 5, none⟩) hgb).trans q5
      obtain ⟨r0, r1, r2, r3, r4, r5⟩ := HM5.out.cells (nb := ⟨#[]⟩) (mb := ⟨#[]⟩) rfl rfl
      obtain ⟨y0, y1, y2, y3, y4, y5⟩ := HB5.out.t3.cells HM.out.2.2.2.1.1 HM.out.2.2.2.1.2
      have cF := cell_of_one HB5.out.t0
      have HCy := Lib.hid (fun u (hb : Below w5.heap.size w5 u) => HY.out u P _ _ _ _ _ Q N n1' (fun b hb2 => ⟨Nat.lt_of_lt_of_le (HB5.out.hP b hb2).1 hb.size, (HB5.out.hP b hb2).2⟩) ((TAtP.gro HEy.out.1 HBF.out.hP HG5.out).below hb (fun b hb2 => (HB5.out.hP b hb2).1))
        (var_at u P (n := nx) (by have := HBd.out; have := sz_pos (.mk k1 n1 m1 b1 v1 ts1); omega)) (HB5.out.x3.below hb (fun b hb2 => (HB5.out.hP b hb2).1)) (HN5.out.below hb) (by have := HBd.out; have := HNx.out; omega) (by have := HBd.out; have := HNx.out; omega) HCk.out.2 (HU5.out.below hb) HU.out.2)
      rw [HRY.out, valT_mk HM.out.2.2.2.2.1 HM.out.2.2.2.2.2, valT_mk HM.out.2.2.2.1.1 HM.out.2.2.2.1.2, show valT (varT nx) (.slice none 0 0) = .agg #[.int .i64 1, .string ⟨#[]⟩, .string ⟨#[]⟩, .int .u64 0, .int .i64 nx, .slice none 0 0] from rfl, show freshV Q = .func (.func 60) #[] #[.pointer (some ⟨Q, 0, none⟩)] from rfl] at HCy
      have HS3 := Lib.hid (show ∀ z, w5.grownBy z (some N) → ((z.cell? ⟨AB, 0, none⟩ = some (.int .i64 k5) ∧ z.cell? ⟨AB, 1, none⟩ = some (.string nb5) ∧ z.cell? ⟨AB, 2, none⟩ = some (.string mb5) ∧ z.cell? ⟨AB, 3, none⟩ = some (.int .u64 b5) ∧ z.cell? ⟨AB, 4, none⟩ = some (.int .i64 v5) ∧ z.cell? ⟨AB, 5, none⟩ = some (.slice A5 L5 c5)) ∧ z.cell? ⟨G, 5, none⟩ = some (.slice (some ⟨g, o, none⟩) 2 c) ∧ (z.cell? ⟨g, o + 6, none⟩ = some (.int .i64 k4) ∧ z.cell? ⟨g, o + 6 + 1, none⟩ = some (.string nb4) ∧ z.cell? ⟨g, o + 6 + 2, none⟩ = some (.string mb4) ∧ z.cell? ⟨g, o + 6 + 3, none⟩ = some (.int .u64 b4) ∧ z.cell? ⟨g, o + 6 + 4, none⟩ = some (.int .i64 v4) ∧ z.cell? ⟨g, o + 6 + 5, none⟩ = some (.slice A4 L4 c4)) ∧ (z.cell? ⟨M, 0, none⟩ = some (.int .i64 1) ∧ z.cell? ⟨M, 1, none⟩ = some (.string ⟨#[]⟩) ∧ z.cell? ⟨M, 2, none⟩ = some (.string ⟨#[]⟩) ∧ z.cell? ⟨M, 3, none⟩ = some (.int .u64 0) ∧ z.cell? ⟨M, 4, none⟩ = some (.int .i64 nx) ∧ z.cell? ⟨M, 5, none⟩ = some (.slice none 0 0)) ∧ (z.cell? ⟨G2, 0, none⟩ = some (.int .i64 k3) ∧ z.cell? ⟨G2, 1, none⟩ = some (.string nb3) ∧ z.cell? ⟨G2, 2, none⟩ = some (.string mb3) ∧ z.cell? ⟨G2, 3, none⟩ = some (.int .u64 b3) ∧ z.cell? ⟨G2, 4, none⟩ = some (.int .i64 v3) ∧ z.cell? ⟨G2, 5, none⟩ = some (.slice A3 L3 c3)) ∧ z.cell? ⟨Fb, 0, none⟩ = some (.func (.func 60) #[] #[.pointer (some ⟨Q, 0, none⟩)])) from fun z hg => by
        have hb := HB5.out.go hg
        have hz : z.heap[g]? = w5.heap[g]? := hg.block g (Nat.lt_of_lt_of_le HPb.out.1.1 HG5.out.size) (fun e => HPb.out.1.2 (by injection e))
        exact ⟨(TBox.gro hbx hg (by omega)).cells HL5.out.1 HL5.out.2.1, (hb.t1.cells HM.out.1.1 HM.out.1.2).2.2.2.2.2, ⟨(World.cell?_of_block (a := ⟨g, o + 6, none⟩) hz).trans q0, (World.cell?_of_block (a := ⟨g, o + 6 + 1, none⟩) hz).trans q1, (World.cell?_of_block (a := ⟨g, o + 6 + 2, none⟩) hz).trans q2, (World.cell?_of_block (a := ⟨g, o + 6 + 3, none⟩) hz).trans q3, (World.cell?_of_block (a := ⟨g, o + 6 + 4, none⟩) hz).trans q4, (World.cell?_of_block (a := ⟨g, o + 6 + 5, none⟩) hz).trans q5⟩,
          (HM5.out.gro hg (by omega)).cells rfl rfl, hb.t3.cells HM.out.2.2.2.1.1 HM.out.2.2.2.1.2, cell_of_one hb.t0⟩)
      clear hAB hsz hR0 hlt hbx hgr hgb KK GG HAB HTA HNu HCx HS HRY a0 a1 a2 a3 a4 a5 t5 q0 q1 q2 q3 q4 q5 r0 r1 r2 r3 r4 r5 y0 y1 y2 y3 y4 y5 cF
      go_upto_region 3 with fail
      refine wp_region_wait (fun z => ((z.cell? ⟨AB, 0, none⟩ = some (.int .i64 k5) ∧ z.cell? ⟨AB, 1, none⟩ = some (.string nb5) ∧ z.cell? ⟨AB, 2, none⟩ = some (.string mb5) ∧ z.cell? ⟨AB, 3, none⟩ = some (.int .u64 b5) ∧ z.cell? ⟨AB, 4, none⟩ = some (.int .i64 v5) ∧ z.cell? ⟨AB, 5, none⟩ = some (.slice A5 L5 c5)) ∧ z.cell? ⟨G, 5, none⟩ = some (.slice (some ⟨g, o, none⟩) 2 c) ∧ (z.cell? ⟨g, o + 6, none⟩ = some (.int .i64 k4) ∧ z.cell? ⟨g, o + 6 + 1, none⟩ = some (.string nb4) ∧ z.cell? ⟨g, o + 6 + 2, none⟩ = some (.string mb4) ∧ z.cell? ⟨g, o + 6 + 3, none⟩ = some (.int .u64 b4) ∧ z.cell? ⟨g, o + 6 + 4, none⟩ = some (.int .i64 v4) ∧ z.cell? ⟨g, o + 6 + 5, none⟩ = some (.slice A4 L4 c4)) ∧ (z.cell? ⟨M, 0, none⟩ = some (.int .i64 1) ∧ z.cell? ⟨M, 1, none⟩ = some (.string ⟨#[]⟩) ∧ z.cell? ⟨M, 2, none⟩ = some (.string ⟨#[]⟩) ∧ z.cell? ⟨M, 3, none⟩ = some (.int .u64 0) ∧ z.cell? ⟨M, 4, none⟩ = some (.int .i64 nx) ∧ z.cell? ⟨M, 5, none⟩ = some (.slice none 0 0)) ∧ (z.cell? ⟨G2, 0, none⟩ = some (.int .i64 k3) ∧ z.cell? ⟨G2, 1, none⟩ = some (.string nb3) ∧ z.cell? ⟨G2, 2, none⟩ = some (.string mb3) ∧ z.cell? ⟨G2, 3, none⟩ = some (.int .u64 b3) ∧ z.cell? ⟨G2, 4, none⟩ = some (.int .i64 v3) ∧ z.cell? ⟨G2, 5, none⟩ = some (.slice A3 L3 c3)) ∧ z.cell? ⟨Fb, 0, none⟩ = some (.func (.func 60) #[] #[.pointer (some ⟨Q, 0, none⟩)]))) 12 (by kernel_rfl) ?_
      change wpAnyW _ _ _ _ _ _ _ _ _ w5.drew
      have KY := Lib.hid (below_drew' w5)
      generalize w5.drew = v0 at *
      refine wpAnyW_take 12 (i := 0) (v := .string sb) rfl (by kernel_rfl) (by kernel_rfl) (by kernel_rfl) (by kernel_rfl) (fun _ _ _ h => h) (Or.inl ⟨by rfl, ?_⟩) (HS3.out _ (grown_below KY.out)) ?_
      · intro w5 hSw
        obtain ⟨⟨a0, a1, a2, a3, a4, a5⟩, s1, ⟨q0, q1, q2, q3, q4, q5⟩, ⟨r0, r1, r2, r3, r4, r5⟩, ⟨y0, y1, y2, y3, y4, y5⟩, s2⟩ := hSw
        go_simp
      refine wpAnyW_take 12 (i := 1) (v := .agg #[.int .i64 k5, .string nb5, .string mb5, .int .u64 b5, .int .i64 v5, .slice A5 L5 c5]) rfl (by kernel_rfl) (by kernel_rfl) (by kernel_rfl) (by kernel_rfl) (fun _ _ _ h => h) (Or.inl ⟨by rfl, ?_⟩) (HS3.out _ (grown_below KY.out)) ?_
      · intro w5 hSw
        obtain ⟨⟨a0, a1, a2, a3, a4, a5⟩, s1, ⟨q0, q1, q2, q3, q4, q5⟩, ⟨r0, r1, r2, r3, r4, r5⟩, ⟨y0, y1, y2, y3, y4, y5⟩, s2⟩ := hSw
        go_simp
      refine wpAnyW_take 12 (i := 2) (v := .pointer (some ⟨G, 5, none⟩)) rfl (by kernel_rfl) (by kernel_rfl) (by kernel_rfl) (by kernel_rfl) (fun _ _ _ h => h) (Or.inl ⟨by rfl, ?_⟩) (HS3.out _ (grown_below KY.out)) ?_
      · intro w5 hSw
        obtain ⟨⟨a0, a1, a2, a3, a4, a5⟩, s1, ⟨q0, q1, q2, q3, q4, q5⟩, ⟨r0, r1, r2, r3, r4, r5⟩, ⟨y0, y1, y2, y3, y4, y5⟩, s2⟩ := hSw
        go_simp
      refine wpAnyW_take 12 (i := 3) (v := .slice (some ⟨g, o, none⟩) 2 c) rfl (by kernel_rfl) (by kernel_rfl) (by kernel_rfl) (by kernel_rfl) (fun _ _ _ h => h) (Or.inl ⟨by rfl, ?_⟩) (HS3.out _ (grown_below KY.out)) ?_
      · intro w5 hSw
        obtain ⟨⟨a0, a1, a2, a3, a4, a5⟩, s1, ⟨q0, q1, q2, q3, q4, q5⟩, ⟨r0, r1, r2, r3, r4, r5⟩, ⟨y0, y1, y2, y3, y4, y5⟩, s2⟩ := hSw
        go_simp
      refine wpAnyW_take 12 (i := 4) (v := .pointer (some ⟨g, o + 6, none⟩)) rfl (by kernel_rfl) (by kernel_rfl) (by kernel_rfl) (by kernel_rfl) (fun _ _ _ h => h) (Or.inl ⟨by rfl, ?_⟩) (HS3.out _ (grown_below KY.out)) ?_
      · intro w5 hSw
        obtain ⟨⟨a0, a1, a2, a3, a4, a5⟩, s1, ⟨q0, q1, q2, q3, q4, q5⟩, ⟨r0, r1, r2, r3, r4, r5⟩, ⟨y0, y1, y2, y3, y4, y5⟩, s2⟩ := hSw
        go_simp
      refine wpAnyW_take 12 (i := 5) (v := .agg #[.int .i64 k4, .string nb4, .string mb4, .int .u64 b4, .int .i64 v4, .slice A4 L4 c4]) rfl (by kernel_rfl) (by kernel_rfl) (by kernel_rfl) (by kernel_rfl) (fun _ _ _ h => h) (Or.inl ⟨by rfl, ?_⟩) (HS3.out _ (grown_below KY.out)) ?_
      · intro w5 hSw
        obtain ⟨⟨a0, a1, a2, a3, a4, a5⟩, s1, ⟨q0, q1, q2, q3, q4, q5⟩, ⟨r0, r1, r2, r3, r4, r5⟩, ⟨y0, y1, y2, y3, y4, y5⟩, s2⟩ := hSw
        go_simp
      refine wpAnyW_take 12 (i := 6) (v := .agg #[.int .i64 1, .string ⟨#[]⟩, .string ⟨#[]⟩, .int .u64 0, .int .i64 nx, .slice none 0 0]) rfl (by kernel_rfl) (by kernel_rfl) (by kernel_rfl) (by kernel_rfl) (fun _ _ _ h => h) (Or.inl ⟨by rfl, ?_⟩) (HS3.out _ (grown_below KY.out)) ?_
      · intro w5 hSw
        obtain ⟨⟨a0, a1, a2, a3, a4, a5⟩, s1, ⟨q0, q1, q2, q3, q4, q5⟩, ⟨r0, r1, r2, r3, r4, r5⟩, ⟨y0, y1, y2, y3, y4, y5⟩, s2⟩ := hSw
        go_simp
      refine wpAnyW_take 12 (i := 7) (v := .agg #[.int .i64 k3, .string nb3, .string mb3, .int .u64 b3, .int .i64 v3, .slice A3 L3 c3]) rfl (by kernel_rfl) (by kernel_rfl) (by kernel_rfl) (by kernel_rfl) (fun _ _ _ h => h) (Or.inl ⟨by rfl, ?_⟩) (HS3.out _ (grown_below KY.out)) ?_
      · intro w5 hSw
        obtain ⟨⟨a0, a1, a2, a3, a4, a5⟩, s1, ⟨q0, q1, q2, q3, q4, q5⟩, ⟨r0, r1, r2, r3, r4, r5⟩, ⟨y0, y1, y2, y3, y4, y5⟩, s2⟩ := hSw
        go_simp
      refine wpAnyW_take 12 (i := 8) (v := .func (.func 60) #[] #[.pointer (some ⟨Q, 0, none⟩)]) rfl (by kernel_rfl) (by kernel_rfl) (by kernel_rfl) (by kernel_rfl) (fun _ _ _ h => h) (Or.inl ⟨by rfl, ?_⟩) (HS3.out _ (grown_below KY.out)) ?_
      · intro w5 hSw
        obtain ⟨⟨a0, a1, a2, a3, a4, a5⟩, s1, ⟨q0, q1, q2, q3, q4, q5⟩, ⟨r0, r1, r2, r3, r4, r5⟩, ⟨y0, y1, y2, y3, y4, y5⟩, s2⟩ := hSw
        go_simp
      cases RY with
      | error bt =>
        have hRE := HRR.out
        change Except.error bt = RR at hRE
        subst hRE
        refine wpAnyW_one (i := 9) (by kernel_rfl) rfl (fun K hK => ?_)
        go_simp
        (with_reducible refine (HCy.out _ KY.out).mono ?_)
        rintro e u1 hp
        obtain ⟨hg, bb, rfl, hball⟩ := hp.bad
        exact ⟨rfl, grown_trans HG5.out (grown_trans (grown_below KY.out) hg), bb, rfl, hball⟩
      | ok pp =>
        obtain ⟨cc, n2'⟩ := pp
        obtain ⟨k6, n6, m6, b6, v6, ts6⟩ := cc
        obtain ⟨nb6, hnb6⟩ : ∃ nb : ByteArray, (⟨n6.toArray⟩ : ByteArray) = nb := ⟨_, rfl⟩
        obtain ⟨mb6, hmb6⟩ : ∃ mb : ByteArray, (⟨m6.toArray⟩ : ByteArray) = mb := ⟨_, rfl⟩
        obtain ⟨L6, hL6⟩ : ∃ L, ts6.length = L := ⟨_, rfl⟩
        have HL6 := Lib.hid (And.intro hnb6 (And.intro hmb6 hL6))
        have hRE := HRR.out
        change Except.ok (cmpT s [.mk k5 n5 m5 b5 v5 ts5, .mk k6 n6 m6 b6 v6 ts6], n2') = RR at hRE
        have HRE := Lib.hid hRE
        clear hnb6 hmb6 hL6 hRE
        refine wpAnyW_one (i := 9) (by kernel_rfl) rfl (fun K hK => ?_)
        go_simp
        (with_reducible refine (HCy.out _ KY.out).mono ?_)
        rintro e w6 hp
        obtain ⟨A6, c6, rfl, hta6, hnu6, hg60⟩ := hp.letters HL6.out.1 HL6.out.2.1 HL6.out.2.2
        have hg6 := grown_trans (grown_below (r := some N) KY.out) hg60
        have HG6 := Lib.hid hg6
        refine hK.out _ _ (fun _ => HS3.out _ HG6.out) ?_
        have hv0 := KY.out.size
        have hP6 : ∀ b, (P b ∨ (R0 < b ∧ b < w6.heap.size)) → b < w6.heap.size := fun b hb => by
          rcases hb with hb | hb
          · exact Nat.lt_of_lt_of_le (HB5.out.hP b hb).1 hg6.size
          · exact hb.2
        have ht5 : TAtP w6 (fun b => P b ∨ (R0 < b ∧ b < w6.heap.size)) (.mk k5 n5 m5 b5 v5 ts5) (.slice A5 L5 c5) := TAtP.keep _ HT5.out (fun b hb => ⟨by rcases hb with hb | hb; exact .inl hb; exact .inr ⟨hb.1, Nat.lt_of_lt_of_le hb.2 hg6.size⟩, hg6.block b (by rcases hb with hb | hb; exact (HB5.out.hP b hb).1; exact hb.2) (fun e => by injection e with e; rcases hb with hb | hb; exact (HBF.out.hP b hb).2 e; have := HSz.out; omega)⟩)
        have h5s := HR5.out.lt
        have ht6 : TAtP w6 (fun b => P b ∨ (R0 < b ∧ b < w6.heap.size)) (.mk k6 n6 m6 b6 v6 ts6) (.slice A6 L6 c6) := hta6.wide (fun b hb => by
          rcases hb with hb | hb
          · exact .inl hb
          · exact .inr ⟨by omega, hb.2⟩)
        have hbu := built (w := w6) (s := s) (n := 2) (cs := #[.int .i64 k5, .string nb5, .string mb5, .int .u64 b5, .int .i64 v5, .slice A5 L5 c5, .int .i64 k6, .string nb6, .string mb6, .int .u64 b6, .int .i64 v6, .slice A6 L6 c6]) (ps := [((.mk k5 n5 m5 b5 v5 ts5 : Tm), Value.slice A5 L5 c5), ((.mk k6 n6 m6 b6 v6 ts6 : Tm), Value.slice A6 L6 c6)]) (by rw [← HL5.out.1, ← HL5.out.2.1, ← HL6.out.1, ← HL6.out.2.1]; rfl) rfl (mem2 ht5 ht6) hP6 (by unfold maxArgs; omega) HSs.out.1
        have hb7 : Below w6.heap.size w6 (w6.alloc (.cells #[.int .i64 k5, .string nb5, .string mb5, .int .u64 b5, .int .i64 v5, .slice A5 L5 c5, .int .i64 k6, .string nb6, .string mb6, .int .u64 b6, .int .i64 v6, .slice A6 L6 c6] 25)) := (Below.refl _ _).alloc (Nat.le_refl _) _
        have hs7 : (w6.alloc (.cells #[.int .i64 k5, .string nb5, .string mb5, .int .u64 b5, .int .i64 v5, .slice A5 L5 c5, .int .i64 k6, .string nb6, .string mb6, .int .u64 b6, .int .i64 v6, .slice A6 L6 c6] 25)).heap.size = w6.heap.size + 1 := by simp
        have HX6 := Lib.hid (And.intro hP6 (And.intro hbu (And.intro hb7 (And.intro hs7 hnu6))))
        clear hP6 ht5 ht6 hbu hb7 hs7 hta6 hnu6 hg6 hg60 hp h5s hv0
        refine wpAnyW_one (i := 10) (by kernel_rfl) rfl (fun K hK => ?_)
        go_simp
        refine hK.out _ _ (fun _ => HS3.out _ (grown_trans HG6.out (grown_below HX6.out.2.2.1))) ?_
        generalize w6.alloc (.cells #[.int .i64 k5, .string nb5, .string mb5, .int .u64 b5, .int .i64 v5, .slice A5 L5 c5, .int .i64 k6, .string nb6, .string mb6, .int .u64 b6, .int .i64 v6, .slice A6 L6 c6] 25) = w7 at *
        refine wpAnyW_one (i := 11) (by kernel_rfl) rfl (fun K hK => ?_)
        go_simp
        (with_reducible refine (of_any _ _ _ _ _).mono ?_)
        rintro e w8 ⟨rfl, hb8⟩
        have HE8 := Lib.hid hb8
        refine hK.out _ _ (fun _ => HS3.out _ (grown_trans HG6.out (grown_below (HX6.out.2.2.1.trans (hb8.mono HX6.out.2.2.1.size))))) ?_
        have HR8 := Lib.hid ((HR5.out.gro HG6.out (by have := HSz.out; omega)).below (HX6.out.2.2.1.trans (hb8.mono HX6.out.2.2.1.size)))
        clear hb8
        refine wpAnyW_one (i := 12) (by kernel_rfl) rfl (fun K hK => ?_)
        obtain ⟨z0, z1, z2, z3, z4, z5⟩ := HR8.out.cells rfl rfl
        obtain ⟨f0, f1, f2, f3, f4, f5⟩ := HR8.out.frozens
        go_simp
        refine hK.out _ _ (fun h => absurd h (by simp)) ?_
        refine wpAnyW_done (by kernel_rfl) ?_ _
        clear z0 z1 z2 z3 z4 z5 f0 f1 f2 f3 f4 f5
        go_wp2
        obtain ⟨hP6, hbu, hb7, hs7, hnu6⟩ := HX6.out
        have hg6 := HG6.out
        have hb8 := HE8.out
        have h5s := HR5.out.lt
        obtain ⟨hbx, hgr⟩ := HR8.out.set6 (k := 5) (b := 0) (v := 0) (n := s) (m := []) [.mk k5 n5 m5 b5 v5 ts5, .mk k6 n6 m6 b6 v6 ts6] (.slice (some ⟨w6.heap.size, 0, none⟩) 2 2) HSs.out.2 rfl
        generalize (((((w8.setCell ⟨R0, 0, none⟩ (.int .i64 5)).setCell ⟨R0, 1, none⟩ (.string sb)).setCell ⟨R0, 2, none⟩ (.string ⟨#[]⟩)).setCell ⟨R0, 3, none⟩ (.int .u64 0)).setCell ⟨R0, 4, none⟩ (.int .i64 0)).setCell ⟨R0, 5, none⟩ (.slice (some ⟨w6.heap.size, 0, none⟩) 2 2) = w9 at *
        obtain ⟨r0, r1, r2, r3, r4, r5⟩ := hbx.cells HSs.out.2 rfl
        have hR0 := HR0.out
        have hsz := HSz.out
        have hs6 := hg6.size
        have hs8 := hb8.size
        refine bodyPost_ret (v := .agg #[.int .i64 5, .string sb, .string ⟨#[]⟩, .int .u64 0, .int .i64 0, .slice (some ⟨w6.heap.size, 0, none⟩) 2 2]) (by simp [results, Tryd.results63, go_sem, r0, r1, r2, r3, r4, r5]) rfl ?_
        rw [← HRE.out]
        refine ⟨?_, ⟨_, congrArg Ending.returned (valT_mk HSs.out.2 rfl).symm, ?_⟩, ?_⟩
        · exact gb_new (grown_trans HG5.out (grown_trans hg6 (grown_below (hb7.trans (hb8.mono (by omega)))))) hgr (by omega)
        · refine TAtP.keep _ hbu (fun b hb => ?_)
          have hb1 : b < w7.heap.size := by rcases hb with hb | hb; have := hP6 b hb; omega; omega
          refine ⟨?_, (hgr.block b (by omega) (fun e => ?_)).trans (hb8.block b hb1)⟩
          · rcases hb with hb | hb
            · rcases hb with hb | hb
              · exact .inl hb
              · exact .inr ⟨by omega, by have := hgr.size; omega⟩
            · exact .inr ⟨by omega, by have := hgr.size; omega⟩
          · injection e with e
            rcases hb with hb | hb
            · rcases hb with hb | hb
              · have := (HBF.out.hP b hb).1; omega
              · omega
            · omega
        · exact ((hnu6.below (hb7.trans (hb8.mono (by omega)))).gro hgr (by have := HLT.out; omega) (by omega))
end Go.Proofs.YtgfeainpeplphaaDoor
