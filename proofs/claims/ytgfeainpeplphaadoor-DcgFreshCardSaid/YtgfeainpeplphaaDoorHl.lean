import Derived.Test.YtgfeainpeplphaaDoorHk
import Derived.Test.YtgfeainpeplphaaDoorHb
namespace Go.Proofs.YtgfeainpeplphaaDoor
open Go.RowKit Hb Ht
set_option linter.unusedVariables false
set_option linter.unusedSimpArgs false
attribute [local go_sem] Oper.semAt_some
/-! ### makers of terms -/
set_option maxRecDepth 100000 in
theorem A_any (nb : ByteArray) (w : World) : Calls Tryd.prog 45 #[.string nb] w fun e w' => e = .returned (.agg #[.int .i64 2, .string nb, .string ⟨#[]⟩, .int .u64 0, .int .i64 0, .slice none 0 0]) ∧ Below w.heap.size w w' := by
  go_enter Tryd.func45, Tryd.ntmps45
  go_wp2
  refine bodyPost_ret (v := .agg #[.int .i64 2, .string nb, .string ⟨#[]⟩, .int .u64 0, .int .i64 0, .slice none 0 0]) (by simp [results, Tryd.results45, go_sem]) rfl ⟨rfl, ?_⟩
  exact (Below.refl _ _).alloc (Nat.le_refl _) _
set_option maxRecDepth 100000 in
theorem atom_any (nb : ByteArray) (w : World) : Calls Tryd.prog 33 #[.string nb] w fun e w' => e = .returned (.agg #[.int .i64 2, .string nb, .string ⟨#[]⟩, .int .u64 0, .int .i64 0, .slice none 0 0]) ∧ Below w.heap.size w w' := by
  go_enter Tryd.func33, Tryd.ntmps33
  go_wp2
  refine bodyPost_ret (v := .agg #[.int .i64 2, .string nb, .string ⟨#[]⟩, .int .u64 0, .int .i64 0, .slice none 0 0]) (by simp [results, Tryd.results33, go_sem]) rfl ⟨rfl, ?_⟩
  exact (Below.refl _ _).alloc (Nat.le_refl _) _
set_option maxRecDepth 100000 in
theorem latom_any (nb : ByteArray) (w : World) : Calls Tryd.prog 26 #[.string nb] w fun e w' => e = .returned (.agg #[.int .i64 2, .string nb, .string ⟨#[]⟩, .int .u64 0, .int .i64 0, .slice none 0 0]) ∧ Below w.heap.size w w' := by
  go_enter Tryd.func26, Tryd.ntmps26
  go_wp2
  refine bodyPost_ret (v := .agg #[.int .i64 2, .string nb, .string ⟨#[]⟩, .int .u64 0, .int .i64 0, .slice none 0 0]) (by simp [results, Tryd.results26, go_sem]) rfl ⟨rfl, ?_⟩
  exact (Below.refl _ _).alloc (Nat.le_refl _) _
set_option maxRecDepth 100000 in
theorem V_any (n : Int) (w : World) : Calls Tryd.prog 47 #[.int .i64 n] w fun e w' => e = .returned (.agg #[.int .i64 1, .string ⟨#[]⟩, .string ⟨#[]⟩, .int .u64 0, .int .i64 n, .slice none 0 0]) ∧ Below w.heap.size w w' := by
  go_enter Tryd.func47, Tryd.ntmps47
  go_wp2
  refine bodyPost_ret (v := .agg #[.int .i64 1, .string ⟨#[]⟩, .string ⟨#[]⟩, .int .u64 0, .int .i64 n, .slice none 0 0]) (by simp [results, Tryd.results47, go_sem]) rfl ⟨rfl, ?_⟩
  exact (Below.refl _ _).alloc (Nat.le_refl _) _
set_option maxRecDepth 100000 in
theorem lv_any (n : Int) (w : World) : Calls Tryd.prog 21 #[.int .i64 n] w fun e w' => e = .returned (.agg #[.int .i64 1, .string ⟨#[]⟩, .string ⟨#[]⟩, .int .u64 0, .int .i64 n, .slice none 0 0]) ∧ Below w.heap.size w w' := by
  go_enter Tryd.func21, Tryd.ntmps21
  go_wp2
  refine bodyPost_ret (v := .agg #[.int .i64 1, .string ⟨#[]⟩, .string ⟨#[]⟩, .int .u64 0, .int .i64 n, .slice none 0 0]) (by simp [results, Tryd.results21, go_sem]) rfl ⟨rfl, ?_⟩
  exact (Below.refl _ _).alloc (Nat.le_refl _) _
set_option maxRecDepth 100000 in
theorem of_any (nb : ByteArray) (A : Option Addr) (n c : Nat) (w : World) : Calls Tryd.prog 32 #[.string nb, .slice A n c] w fun e w' => e = .returned (.agg #[.int .i64 5, .string nb, .string ⟨#[]⟩, .int .u64 0, .int .i64 0, .slice A n c]) ∧ Below w.heap.size w w' := by
  go_enter Tryd.func32, Tryd.ntmps32
  go_wp2
  refine bodyPost_ret (v := .agg #[.int .i64 5, .string nb, .string ⟨#[]⟩, .int .u64 0, .int .i64 0, .slice A n c]) (by simp [results, Tryd.results32, go_sem]) rfl ⟨rfl, ?_⟩
  exact (Below.refl _ _).alloc (Nat.le_refl _) _
set_option maxRecDepth 100000 in
theorem lf_any (nb : ByteArray) (A : Option Addr) (n c : Nat) (w : World) : Calls Tryd.prog 25 #[.string nb, .slice A n c] w fun e w' => e = .returned (.agg #[.int .i64 5, .string nb, .string ⟨#[]⟩, .int .u64 0, .int .i64 0, .slice A n c]) ∧ Below w.heap.size w w' := by
  go_enter Tryd.func25, Tryd.ntmps25
  go_wp2
  refine bodyPost_ret (v := .agg #[.int .i64 5, .string nb, .string ⟨#[]⟩, .int .u64 0, .int .i64 0, .slice A n c]) (by simp [results, Tryd.results25, go_sem]) rfl ⟨rfl, ?_⟩
  exact (Below.refl _ _).alloc (Nat.le_refl _) _
/-! ### is -/
theorem isC_eq {k v b : Int} {n m s : List UInt8} {ts : List Tm} {L : Nat} : isC (.mk k n m b v ts) s L = (decide (k = 5) && decide (n = s) && decide (ts.length = L)) := rfl
set_option maxRecDepth 100000 in
set_option maxHeartbeats 1000000 in
theorem is_any {w : World} {t : Tm} {A : Option Addr} {L c : Nat} {k v b : Int} {n m : List UInt8} {ts : List Tm} {nb mb : ByteArray} (hnb : (⟨n.toArray⟩ : ByteArray) = nb) (hmb : (⟨m.toArray⟩ : ByteArray) = mb) (hL : ts.length = L) (hl : L ≤ maxArgs) (hc : L ≤ c) (s : ByteArray) (q : Nat) :
    Calls Tryd.prog 30 #[.agg #[.int .i64 k, .string nb, .string mb, .int .u64 b, .int .i64 v, .slice A L c], .string s, .int .i64 (q : Int)] w fun e w' => e = .returned (.bool (isC (.mk k n m b v ts) s.data.toList q)) ∧ Below w.heap.size w w' := by
  rw [isC_eq, hL]
  have hX := TBox.new (ts := ts) w (k := k) (b := b) (v := v) (sl := .slice A L c) hnb hmb
  have HB := Lib.hid (show Below w.heap.size w (w.alloc (.cells #[.int .i64 k, .string nb, .string mb, .int .u64 b, .int .i64 v, .slice A L c] 25)) from (Below.refl _ _).alloc (Nat.le_refl _) _)
  have hLI : (L : Int) ≤ 1759218604400 := by unfold maxArgs at hl; omega
  obtain ⟨x0, x1, x2, x3, x4, x5⟩ := hX.cells hnb hmb
  have hnd : nb.data.toList = n := by rw [← hnb]
  clear hX hnb hmb hl
  by_cases h1 : k = 5
  · subst h1
    by_cases h2 : n = s.data.toList
    · have s1 : (nb.toList == s.toList) = true := by rw [ByteArray.toList_eq, ByteArray.toList_eq, hnd, h2]; simp
      by_cases h3 : L = q
      · subst h3
        rw [decide_eq_true h2]
        clear h2 hnd hL
        go_enter Tryd.func30, Tryd.ntmps30
        go_wp2
        go_ret
        exact ⟨rfl, HB.out⟩
      · have s3 : ((L : Int) == (q : Int)) = false := beq_eq_false_iff_ne.2 (by omega)
        rw [decide_eq_true h2, decide_eq_false h3]
        clear h2 hnd h3 hL
        go_enter Tryd.func30, Tryd.ntmps30
        go_wp2
        go_ret
        exact ⟨rfl, HB.out⟩
    · have s1 : (nb.toList == s.toList) = false := by rw [ByteArray.toList_eq, ByteArray.toList_eq, hnd]; exact beq_eq_false_iff_ne.2 h2
      rw [decide_eq_false h2]
      clear h2 hnd hL
      go_enter Tryd.func30, Tryd.ntmps30
      go_wp2
      go_ret
      exact ⟨rfl, HB.out⟩
  · have s0 : (k == 5) = false := beq_eq_false_iff_ne.2 h1
    rw [decide_eq_false h1]
    clear h1 hnd hL
    go_enter Tryd.func30, Tryd.ntmps30
    go_wp2
    go_ret
    exact ⟨rfl, HB.out⟩
set_option maxRecDepth 100000 in
set_option maxHeartbeats 1000000 in
theorem ris_any {w : World} {t : Tm} {A : Option Addr} {L c : Nat} {k v b : Int} {n m : List UInt8} {ts : List Tm} {nb mb : ByteArray} (hnb : (⟨n.toArray⟩ : ByteArray) = nb) (hmb : (⟨m.toArray⟩ : ByteArray) = mb) (hL : ts.length = L) (hl : L ≤ maxArgs) (hc : L ≤ c) (s : ByteArray) (q : Nat) :
    Calls Tryd.prog 42 #[.agg #[.int .i64 k, .string nb, .string mb, .int .u64 b, .int .i64 v, .slice A L c], .string s, .int .i64 (q : Int)] w fun e w' => e = .returned (.bool (isC (.mk k n m b v ts) s.data.toList q)) ∧ Below w.heap.size w w' := by
  rw [isC_eq, hL]
  have hX := TBox.new (ts := ts) w (k := k) (b := b) (v := v) (sl := .slice A L c) hnb hmb
  have HB := Lib.hid (show Below w.heap.size w (w.alloc (.cells #[.int .i64 k, .string nb, .string mb, .int .u64 b, .int .i64 v, .slice A L c] 25)) from (Below.refl _ _).alloc (Nat.le_refl _) _)
  have hLI : (L : Int) ≤ 1759218604400 := by unfold maxArgs at hl; omega
  obtain ⟨x0, x1, x2, x3, x4, x5⟩ := hX.cells hnb hmb
  have hnd : nb.data.toList = n := by rw [← hnb]
  clear hX hnb hmb hl
  by_cases h1 : k = 5
  · subst h1
    by_cases h2 : n = s.data.toList
    · have s1 : (nb.toList == s.toList) = true := by rw [ByteArray.toList_eq, ByteArray.toList_eq, hnd, h2]; simp
      by_cases h3 : L = q
      · subst h3
        rw [decide_eq_true h2]
        clear h2 hnd hL
        go_enter Tryd.func42, Tryd.ntmps42
        go_wp2
        go_ret
        exact ⟨rfl, HB.out⟩
      · have s3 : ((L : Int) == (q : Int)) = false := beq_eq_false_iff_ne.2 (by omega)
        rw [decide_eq_true h2, decide_eq_false h3]
        clear h2 hnd h3 hL
        go_enter Tryd.func42, Tryd.ntmps42
        go_wp2
        go_ret
        exact ⟨rfl, HB.out⟩
    · have s1 : (nb.toList == s.toList) = false := by rw [ByteArray.toList_eq, ByteArray.toList_eq, hnd]; exact beq_eq_false_iff_ne.2 h2
      rw [decide_eq_false h2]
      clear h2 hnd hL
      go_enter Tryd.func42, Tryd.ntmps42
      go_wp2
      go_ret
      exact ⟨rfl, HB.out⟩
  · have s0 : (k == 5) = false := beq_eq_false_iff_ne.2 h1
    rw [decide_eq_false h1]
    clear h1 hnd hL
    go_enter Tryd.func42, Tryd.ntmps42
    go_wp2
    go_ret
    exact ⟨rfl, HB.out⟩
/-! ### the reference's F, F2 -/
theorem owns_emptyT (w : World) (B : Nat) (hB : B ≤ w.heap.size) : (w.alloc (.cells #[] 25)).ownsRow B 25 6 (.slice (some ⟨w.heap.size, 0, none⟩) 0 0) 0 (fl6 []) :=
  ⟨rfl, .inr ⟨w.heap.size, 0, #[], rfl, hB, heap_alloc_new w _, Nat.le_refl _, Nat.zero_le _, rfl, rfl⟩⟩
/-- a slice that reads as a row of terms, their parts in blocks that are P -/
def RowP (w : World) (P : Nat → Prop) (A : Option Addr) (n : Nat) (ps : List (Tm × Value)) : Prop := ps.length = n ∧ (∀ p ∈ ps, TAtP w P p.1 p.2) ∧ (0 < n → ∃ g o, A = some ⟨g, o, none⟩ ∧ g < w.heap.size ∧ ∀ j u, (fl6 ps)[j]? = some u → w.cell? ⟨g, o + j, none⟩ = some u)
/-- the blocks of a set, and new ones -/
def Grow (P : Nat → Prop) (w w' : World) (b : Nat) : Prop := P b ∨ (w.heap.size ≤ b ∧ b < w'.heap.size)
theorem Grow.lt {P : Nat → Prop} {w w' : World} (hP : ∀ b, P b → b < w.heap.size) (hs : w.heap.size ≤ w'.heap.size) : ∀ b, Grow P w w' b → b < w'.heap.size := fun b hb => by
  rcases hb with hb | hb
  · exact Nat.lt_of_lt_of_le (hP b hb) hs
  · exact hb.2
set_option maxRecDepth 100000 in
set_option maxHeartbeats 1000000 in
theorem F_any {w : World} {P : Nat → Prop} {A : Option Addr} {n c : Nat} {ps : List (Tm × Value)} (h : RowP w P A n ps) (hP : ∀ b, P b → b < w.heap.size) (hn0 : 0 < n) (hn : n ≤ maxArgs) (nb : ByteArray) :
    Calls Tryd.prog 67 #[.string nb, .slice A n c] w fun e w' => ∃ A' c', e = .returned (.agg #[.int .i64 5, .string nb, .string ⟨#[]⟩, .int .u64 0, .int .i64 0, .slice A' n c']) ∧ TRow w' (w.heap.size + 1) P A' n c' ps ∧ Below w.heap.size w w' := by
  obtain ⟨g, o, rfl, hg, hc⟩ := h.2.2 hn0
  obtain ⟨W1, hW1⟩ : ∃ W1, w.alloc (.cells #[.int .i64 0, .string ⟨#[]⟩, .string ⟨#[]⟩, .int .u64 0, .int .i64 0, .slice none 0 0] 25) = W1 := ⟨_, rfl⟩
  have hb1 : Below w.heap.size w W1 := by rw [← hW1]; exact (Below.refl _ _).alloc (Nat.le_refl _) _
  have s1 : W1.heap.size = w.heap.size + 1 := by rw [← hW1]; simp
  have hX : TBox W1 w.heap.size zeroT (.slice none 0 0) := by rw [← hW1]; exact heap_alloc_new w _
  have hb2 : Below W1.heap.size W1 (W1.alloc (.cells #[] 25)) := (Below.refl _ _).alloc (Nat.le_refl _) _
  have hb12 := hb1.trans (hb2.mono hb1.size)
  have hrow : TRow (W1.alloc (.cells #[] 25)) W1.heap.size P (some ⟨W1.heap.size, 0, none⟩) 0 0 [] := ⟨owns_emptyT W1 _ (Nat.le_refl _), fun p hp => by cases hp⟩
  have hk : ∀ q ∈ ps, TAtP (W1.alloc (.cells #[] 25)) (fun b => P b ∧ (Value.slice (some ⟨W1.heap.size, 0, none⟩) 0 0).ownBlock ≠ some b) q.1 q.2 := fun q hq => TAtP.keep _ (h.2.1 q hq) (fun b hb => ⟨⟨hb, fun e => by
    have := hP b hb
    have e2 : (Value.slice (some ⟨W1.heap.size, 0, none⟩) 0 0).ownBlock = some W1.heap.size := rfl
    rw [e2] at e; injection e with e; omega⟩, hb12.block b (hP b hb)⟩)
  rw [s1] at hrow hk
  have HR := Lib.hid (And.intro hrow (And.intro hk hb12))
  have HNw := Lib.hid (show ∀ j u, (fl6 ps)[j]? = some u → (W1.alloc (.cells #[] 25)).cell? ((⟨g, o, none⟩ : Addr).add j) = some u from fun j u hj => by
    rw [addr_add]
    exact (hb12.cell (p := ⟨g, o + j, none⟩) hg).trans (hc j u hj))
  have HX := Lib.hid (hX.below hb2)
  have HL := Lib.hid h.1
  have HS := Lib.hid s1
  have hnI : (n : Int) ≤ 1759218604400 := by unfold maxArgs at hn; omega
  have HMx := Lib.hid hn
  subst hW1
  clear h hc hb1 hb2 hb12 hrow hk hX s1 hn
  go_enter Tryd.func67, Tryd.ntmps67
  go_wp2_with (at_builtin; refine wpList_append_T rfl _ _ rfl ps rfl HR.out.1 (fun b hb => Nat.lt_of_lt_of_le (hP b hb) HR.out.2.2.size) ⟨g, o, none⟩ n c rfl HL.out HR.out.2.1 HNw.out (by have := HMx.out; omega) (by simp) ?_; rw [Nat.zero_add, List.nil_append]; intro A3 c3 w3 ho3 hb3 hg3; have HX3 := Lib.hid (show TBox w3 w.heap.size zeroT (.slice none 0 0) from (hb3.block _ (by omega)).trans HX.out); obtain ⟨u0, u1, u2, u3, u4, u5⟩ := HX3.out.cells rfl rfl; obtain ⟨v0, v1, v2, v3, v4, v5⟩ := HX3.out.frozens; have HO3 := Lib.hid (And.intro ho3 hb3); clear ho3 hb3 hg3)
  obtain ⟨hbx, hgr⟩ := HX3.out.set6 (k := 5) (b := 0) (v := 0) (n := nb.data.toList) (m := []) (nb := nb) (mb := ⟨#[]⟩) (ps.map (·.1)) (.slice A3 n c3) (by simp) rfl
  generalize (((((w3.setCell ⟨w.heap.size, 0, none⟩ (.int .i64 5)).setCell ⟨w.heap.size, 1, none⟩ (.string nb)).setCell ⟨w.heap.size, 2, none⟩ (.string ⟨#[]⟩)).setCell ⟨w.heap.size, 3, none⟩ (.int .u64 0)).setCell ⟨w.heap.size, 4, none⟩ (.int .i64 0)).setCell ⟨w.heap.size, 5, none⟩ (.slice A3 n c3) = w6 at *
  obtain ⟨r0, r1, r2, r3, r4, r5⟩ := hbx.cells (nb := nb) (mb := ⟨#[]⟩) (by simp) rfl
  have hb12 := HR.out.2.2
  have hb3 := HO3.out.2
  have hwz : w.heap.size < w3.heap.size := HX3.out.lt
  refine bodyPost_ret (v := .agg #[.int .i64 5, .string nb, .string ⟨#[]⟩, .int .u64 0, .int .i64 0, .slice A3 n c3]) (by simp [results, Tryd.results67, go_sem, r0, r1, r2, r3, r4, r5]) rfl ⟨A3, c3, rfl, ?_, ?_⟩
  · exact HO3.out.1.keepP (w' := w6) (fun b h1 h2 => hgr.block b h2 (fun e => by injection e with e; omega)) (fun b hb => by
      have := hP b hb
      exact hgr.block b (by omega) (fun e => by injection e with e; omega))
  · exact ((hb12.trans (hb3.mono (by omega)))).grown hgr (Nat.le_of_lt hwz) (fun j e => by injection e with e; omega)
end Go.Proofs.YtgfeainpeplphaaDoor
