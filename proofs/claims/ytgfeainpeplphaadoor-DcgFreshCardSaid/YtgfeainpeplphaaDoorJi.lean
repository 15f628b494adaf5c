import Derived.Test.YtgfeainpeplphaaDoorJh
namespace Ht
theorem sz_two {k b v : Int} {n m : List UInt8} {x y : Tm} : sz (.mk k n m b v [x, y]) = sz x + sz y + 1 := by simp [sz, szs]
theorem sz_one {k b v : Int} {n m : List UInt8} {x : Tm} : sz (.mk k n m b v [x]) = sz x + 1 := by simp [sz, szs]
/-! ### what a body becomes, case by case -/
theorem mkB_var {n m : List UInt8} {b v : Int} {ts : List Tm} {f d : Tm} {nx : Int} : mkB (.mk 1 n m b v ts) f d nx = .ok (cmpT sPhrase [.mk 1 n m b v ts, f, d], nx) := by
  rw [mkB.eq_def]; simp
theorem mkB_seq {n m : List UInt8} {b v : Int} {x y f d : Tm} {nx : Int} (h : n = sComma ∨ n = sArrow) : mkB (.mk 5 n m b v [x, y]) f d nx = seqR n x y f d nx := by
  rw [mkB.eq_def, seqR]
  rcases hm : mkB x f (varT nx) (nx + 1) with e | ⟨a, n1⟩
  · simp [h, hm]
  · rcases hm2 : mkB y (varT nx) d n1 with e | ⟨c, n2⟩
    · simp [h, hm, hm2]
    · simp [h, hm, hm2]
def altR (x y f d : Tm) (nx : Int) : Except Tm (Tm × Int) :=
  match mkB x f d nx with
  | .error e => .error e
  | .ok (a, n1) => match mkB y f d n1 with
    | .error e => .error e
    | .ok (c, n2) => .ok (cmpT sSemi [a, c], n2)
theorem altR_bad {x y f d e : Tm} {nx : Int} (h : mkB x f d nx = .error e) : altR x y f d nx = .error e := by rw [altR, h]
theorem altR_ok {x y f d a : Tm} {nx n1 : Int} (h : mkB x f d nx = .ok (a, n1)) : altR x y f d nx = seqK sSemi a (mkB y f d n1) := by
  rw [altR, h]
  cases hm : mkB y f d n1 with
  | error e => simp [hm, seqK]
  | ok p => simp [hm, seqK]
theorem mkB_alt {n m : List UInt8} {b v : Int} {x y f d : Tm} {nx : Int} (h : n = sSemi ∨ n = sBar) : mkB (.mk 5 n m b v [x, y]) f d nx = altR x y f d nx := by
  have h1 : ¬ (n = sComma ∨ n = sArrow) := by rcases h with rfl | rfl <;> decide
  rw [mkB.eq_def, altR]
  rcases hm : mkB x f d nx with e | ⟨a, n1⟩
  · simp [h, h1, hm]
  · rcases hm2 : mkB y f d n1 with e | ⟨c, n2⟩
    · simp [h, h1, hm, hm2]
    · simp [h, h1, hm, hm2]
def negK (f d : Tm) : Except Tm (Tm × Int) → Except Tm (Tm × Int)
  | .error e => .error e
  | .ok (a, n1) => .ok (cmpT sComma [cmpT sNot [a], eqT f d], n1)
theorem mkB_neg {m : List UInt8} {b v : Int} {x f d : Tm} {nx : Int} : mkB (.mk 5 sNot m b v [x]) f d nx = negK f d (mkB x f (varT nx) (nx + 1)) := by
  rw [mkB.eq_def]
  simp only [if_pos]
  rw [if_neg (by decide)]
  cases hm : mkB x f (varT nx) (nx + 1) with
  | error e => simp [hm, negK]
  | ok p => simp [hm, negK]
theorem mkB_curly {m : List UInt8} {b v : Int} {x f d : Tm} {nx : Int} : mkB (.mk 5 sCurly m b v [x]) f d nx = .ok (cmpT sComma [x, eqT f d], nx) := by
  have h1 : sCurly ≠ sNot := by decide
  rw [mkB.eq_def]; simp [h1]
theorem mkB_tru {m : List UInt8} {b v : Int} {ts : List Tm} {f d : Tm} {nx : Int} : mkB (.mk 2 sCurly m b v ts) f d nx = .ok (cmpT sComma [atomT sTrue, eqT f d], nx) := by
  rw [mkB.eq_def]; simp
theorem mkB_cut {m : List UInt8} {b v : Int} {ts : List Tm} {f d : Tm} {nx : Int} : mkB (.mk 2 sCut m b v ts) f d nx = .ok (cmpT sComma [.mk 2 sCut m b v ts, eqT f d], nx) := by
  have h1 : sCut ≠ sCurly := by decide
  rw [mkB.eq_def]; simp [h1]
theorem mkB_nil {m : List UInt8} {b v : Int} {ts : List Tm} {f d : Tm} {nx : Int} : mkB (.mk 2 sNil m b v ts) f d nx = .ok (eqT f d, nx) := by
  have h1 : sNil ≠ sCurly := by decide
  have h2 : sNil ≠ sCut := by decide
  rw [mkB.eq_def]; simp [h1, h2]
theorem mkB_dot {m : List UInt8} {b v : Int} {x y f d : Tm} {nx : Int} : mkB (.mk 5 sDot m b v [x, y]) f d nx = if isNil (elems (.mk 5 sDot m b v [x, y])).2 then .ok (eqT f (endT (elems (.mk 5 sDot m b v [x, y])).1 d), nx) else .error (typedT sList (.mk 5 sDot m b v [x, y])) := by
  have h1 : ¬ (sDot = sComma ∨ sDot = sArrow) := by decide
  have h2 : ¬ (sDot = sSemi ∨ sDot = sBar) := by decide
  rw [mkB.eq_def]; simp [h1, h2]
theorem mkB_atom {n m : List UInt8} {b v : Int} {ts : List Tm} {f d : Tm} {nx : Int} (h1 : n ≠ sCurly) (h2 : n ≠ sCut) (h3 : n ≠ sNil) : mkB (.mk 2 n m b v ts) f d nx = (putT (.mk 2 n m b v ts) f d).map fun g => (g, nx) := by
  rw [mkB.eq_def]; simp [h1, h2, h3]
theorem mkB_cmp {n m : List UInt8} {b v : Int} {ts : List Tm} {f d : Tm} {nx : Int} (h1 : isC (.mk 5 n m b v ts) sComma 2 = false) (h2 : isC (.mk 5 n m b v ts) sSemi 2 = false) (h3 : isC (.mk 5 n m b v ts) sBar 2 = false) (h4 : isC (.mk 5 n m b v ts) sArrow 2 = false) (h5 : isC (.mk 5 n m b v ts) sNot 1 = false) (h6 : isC (.mk 5 n m b v ts) sCurly 1 = false) (h7 : isC (.mk 5 n m b v ts) sDot 2 = false) :
    mkB (.mk 5 n m b v ts) f d nx = (putT (.mk 5 n m b v ts) f d).map fun g => (g, nx) := by
  simp only [isC, Tm.k, Tm.n, Tm.as, decide_true, Bool.true_and, Bool.and_eq_false_iff, decide_eq_false_iff_not] at h1 h2 h3 h4 h5 h6 h7
  match ts with
  | [] => rw [mkB.eq_def]; simp
  | [x] =>
    have a5 : n ≠ sNot := fun e => by rw [e] at h5; simp at h5
    have a6 : n ≠ sCurly := fun e => by rw [e] at h6; simp at h6
    rw [mkB.eq_def]; simp [a5, a6]
  | [x, y] =>
    have a1 : n ≠ sComma := fun e => by rw [e] at h1; simp at h1
    have a2 : n ≠ sSemi := fun e => by rw [e] at h2; simp at h2
    have a3 : n ≠ sBar := fun e => by rw [e] at h3; simp at h3
    have a4 : n ≠ sArrow := fun e => by rw [e] at h4; simp at h4
    have a7 : n ≠ sDot := fun e => by rw [e] at h7; simp at h7
    rw [mkB.eq_def]; simp [a1, a2, a3, a4, a7]
  | x :: y :: z :: r => rw [mkB.eq_def]; simp
theorem mkB_bad {k b v : Int} {n m : List UInt8} {ts : List Tm} {f d : Tm} {nx : Int} (h1 : k ≠ 1) (h2 : k ≠ 2) (h5 : k ≠ 5) : mkB (.mk k n m b v ts) f d nx = .error (typedT sCallable (.mk k n m b v ts)) := by
  rw [mkB.eq_def]; simp [h1, h2, h5]
end Ht
namespace Go.Proofs.YtgfeainpeplphaaDoor
open Go.RowKit Hb Ht
set_option linter.unusedVariables false
set_option linter.unusedSimpArgs false
theorem mem3 {α : Type} {p : α → Prop} {a b c : α} (ha : p a) (hb : p b) (hc : p c) : ∀ x ∈ [a, b, c], p x := by
  intro x hx
  simp only [List.mem_cons, List.not_mem_nil, or_false] at hx
  rcases hx with rfl | rfl | rfl
  · exact ha
  · exact hb
  · exact hc
theorem RowP.wide' {w : World} {P Q : Nat → Prop} {A : Option Addr} {n : Nat} {ps : List (Tm × Value)} (h : RowP w P A n ps) (hP : ∀ b, P b → Q b) : RowP w Q A n ps := ⟨h.1, fun p hp => (h.2.1 p hp).wide hP, h.2.2⟩
/-- the end of body: its result is stored -/
theorem body_fin {w u : World} {P : Nat → Prop} {Q N RB : Nat} {k v b : Int} {n m : List UInt8} {ts : List Tm} {nb mb : ByteArray} {A : Option Addr} {L c : Nat} {n' : Int} (hn : (⟨n.toArray⟩ : ByteArray) = nb) (hm : (⟨m.toArray⟩ : ByteArray) = mb) (hL : ts.length = L)
    (hR : TBox u RB zeroT (.slice none 0 0)) (hRB : w.heap.size ≤ RB) (hP : ∀ b, P b → b < w.heap.size ∧ b ≠ N) (hN : Q < w.heap.size ∧ N < w.heap.size) (ht : TAtP u (fun b => P b ∨ (RB < b ∧ b < u.heap.size)) (.mk k n m b v ts) (.slice A L c)) (hg : w.grownBy u (some N)) (hnu : NumAt u Q N n') {w9 : World}
    (h9 : (((((u.setCell ⟨RB, 0, none⟩ (.int .i64 k)).setCell ⟨RB, 1, none⟩ (.string nb)).setCell ⟨RB, 2, none⟩ (.string mb)).setCell ⟨RB, 3, none⟩ (.int .u64 b)).setCell ⟨RB, 4, none⟩ (.int .i64 v)).setCell ⟨RB, 5, none⟩ (.slice A L c) = w9) :
    TBox w9 RB (.mk k n m b v ts) (.slice A L c) ∧ BodyPost w P Q N (.ok (.mk k n m b v ts, n')) (.returned (.agg #[.int .i64 k, .string nb, .string mb, .int .u64 b, .int .i64 v, .slice A L c])) w9 := by
  obtain ⟨hbx, hgr⟩ := hR.set6 (k := k) (b := b) (v := v) (n := n) (m := m) ts (.slice A L c) hn hm
  rw [h9] at hbx hgr
  refine ⟨hbx, gb_new hg hgr hRB, ⟨_, congrArg Ending.returned (valT_mk hn hm).symm, ?_⟩, hnu.gro hgr (by omega) (by omega)⟩
  refine TAtP.keep _ ht (fun b hb => ⟨?_, hgr.block b ?_ (fun e => ?_)⟩)
  · rcases hb with hb | hb
    · exact .inl hb
    · exact .inr ⟨by omega, Nat.lt_of_lt_of_le hb.2 hgr.size⟩
  · rcases hb with hb | hb
    · exact Nat.lt_of_lt_of_le (hP b hb).1 hg.size
    · exact hb.2
  · injection e with e
    rcases hb with hb | hb
    · have := (hP b hb).1; omega
    · omega
/-- body's variables -/
structure BS (w : World) (P : Nat → Prop) (N Q G GS : Nat) (t f d : Tm) (st sf sd ss : Value) (x : Int) (u : World) : Prop where
  bf : BF P N Q (G + 1 + 1 + 1) G (G + 1) (G + 1 + 1) t f d st sf sd u
  r : TBox u (G + 1 + 1 + 1 + 1) zeroT (.slice none 0 0)
  s : TBox u GS (eqT f d) ss
  xs : TAtP u (fun b => P b ∨ (G + 1 + 1 + 1 + 1 < b ∧ b < u.heap.size)) (eqT f d) ss
  gr : w.grownBy u (some N)
  num : NumAt u Q N x
  hw : w.heap.size = G ∧ Q < G ∧ N < G ∧ G + 1 + 1 + 1 + 1 < GS
  hP : ∀ b, P b → b < w.heap.size ∧ b ≠ N
theorem BS.go {w : World} {P : Nat → Prop} {N Q G GS : Nat} {t f d : Tm} {st sf sd ss : Value} {x x' : Int} {u u' : World} (h : BS w P N Q G GS t f d st sf sd ss x u) (hg : u.grownBy u' (some N)) (hn : NumAt u' Q N x') : BS w P N Q G GS t f d st sf sd ss x' u' :=
  ⟨h.bf.go hg, h.r.gro hg (by have := h.hw; omega), h.s.gro hg (by have := h.hw; omega), TAtP.keep _ h.xs (fun b hb => ⟨by
      rcases hb with hb | hb
      · exact .inl hb
      · exact .inr ⟨hb.1, Nat.lt_of_lt_of_le hb.2 hg.size⟩, hg.block b (by
        rcases hb with hb | hb
        · exact (h.bf.hP b hb).1
        · exact hb.2) (fun e => by
        injection e with e
        rcases hb with hb | hb
        · exact (h.bf.hP b hb).2 e
        · have := h.hw; omega)⟩), grown_trans h.gr hg, hn, h.hw, h.hP⟩
theorem BS.below {w : World} {P : Nat → Prop} {N Q G GS : Nat} {t f d : Tm} {st sf sd ss : Value} {x : Int} {u u' : World} (h : BS w P N Q G GS t f d st sf sd ss x u) (hb : Below u.heap.size u u') : BS w P N Q G GS t f d st sf sd ss x u' := h.go (grown_below hb) (h.num.below hb)
/-- what is built out of what body has -/
theorem BS.pb {w : World} {P : Nat → Prop} {N Q G GS : Nat} {t f d : Tm} {st sf sd ss : Value} {x : Int} {u : World} (h : BS w P N Q G GS t f d st sf sd ss x u) : ∀ b, (P b ∨ (G + 1 + 1 + 1 + 1 < b ∧ b < u.heap.size)) → b < u.heap.size := fun b hb => by
  rcases hb with hb | hb
  · exact (h.bf.hP b hb).1
  · exact hb.2
theorem BS.lt {w : World} {P : Nat → Prop} {N Q G GS : Nat} {t f d : Tm} {st sf sd ss : Value} {x : Int} {u : World} (h : BS w P N Q G GS t f d st sf sd ss x u) : GS < u.heap.size := h.s.lt
/-- .. and then lies in new memory -/
theorem BS.made {w : World} {P : Nat → Prop} {N Q G GS : Nat} {t f d : Tm} {st sf sd ss : Value} {x : Int} {u u1 u2 : World} (h : BS w P N Q G GS t f d st sf sd ss x u) {g : Tm} {sg : Value} (hu1 : u.heap.size + 1 = u1.heap.size) (ht : TAtP u1 (fun b => (P b ∨ (G + 1 + 1 + 1 + 1 < b ∧ b < u.heap.size)) ∨ b = u.heap.size) g sg) (hb : Below u1.heap.size u1 u2) : TAtP u2 (fun b => P b ∨ (G + 1 + 1 + 1 + 1 < b ∧ b < u2.heap.size)) g sg :=
  TAtP.keep _ ht (fun b hb2 => by
    have h1 := h.lt
    have h2 := h.hw
    have hlt : b < u1.heap.size := by
      rcases hb2 with hb2 | hb2
      · have := h.pb b hb2; omega
      · omega
    refine ⟨?_, hb.block b hlt⟩
    rcases hb2 with hb2 | hb2
    · rcases hb2 with hb2 | hb2
      · exact .inl hb2
      · exact .inr ⟨hb2.1, by have := hb.size; omega⟩
    · exact .inr ⟨by omega, by have := hb.size; omega⟩)
end Go.Proofs.YtgfeainpeplphaaDoor
