import Derived.Test.YtpikjceodmepiaaGreatDoorYkb
set_option linter.unusedVariables false
set_option linter.unusedSimpArgs false
namespace Go.Proofs.YtpikjceodmepiaaGreatDoor
open Go.RowKit Hb Hf
set_option linter.unusedVariables false
set_option linter.unusedSimpArgs false
attribute [local go_sem ↓] Go.wp_at_zero Go.wp_at_succ
/-! ### too long, by the ends alone -/
theorem lngB_sz (b : Bd) : lngB b = decide (128 < szE b.ed) := by
  unfold lngB
  by_cases h : b.i = 0
  · rw [Bd.ed_zero h]
    have e : 4096 < blen (nv W b.l) ↔ 128 < szE (.num b.z) := by
      show _ ↔ 128 < (digs W b.z.natAbs).length
      rw [show b.z.natAbs = nv W b.l from ival_natAbs _ _]
      have h1 : blen (nv W b.l) ≤ 4096 ↔ nv W b.l < 2 ^ 4096 := blen_le_iff
      have h2 : (digs W (nv W b.l)).length ≤ 128 ↔ nv W b.l < W ^ 128 := digs_length_le_iff (by decide)
      rw [W128] at h2
      rw [← h1] at h2
      omega
    simp only [h, decide_true, Bool.true_and]
    exact decide_eq_decide.2 e
  · have e : ¬ 128 < szE b.ed := by
      unfold Bd.ed
      split
      · exact Nat.not_lt_zero _
      · split
        · exact Nat.not_lt_zero _
        · omega
    simp [h, e]
def longE (L : List R) : Bool := L.any fun r => decide (128 < szE r.1) || decide (128 < szE r.2)
theorem longP_E (ps : List Rg) : longP ps = longE (ps.map edsR) := by
  unfold longP longE
  rw [List.any_map]
  congr 1
  funext p
  unfold lngR
  rw [lngB_sz, lngB_sz]
  rfl
theorem longE_ends {L M : List R} (hL : longE L = false) (h : ∀ r ∈ M, (∃ s ∈ L, s.1 = r.1) ∧ ∃ s ∈ L, s.2 = r.2) : longE M = false := by
  unfold longE at hL ⊢
  rw [List.any_eq_false] at hL ⊢
  intro r hr
  obtain ⟨⟨s, h1, h2⟩, t, h3, h4⟩ := h r hr
  have a := hL s h1
  have b := hL t h3
  simp only [Bool.or_eq_true, not_or, decide_eq_true_eq] at a b ⊢
  exact ⟨by rw [← h2]; exact a.1, by rw [← h4]; exact b.2⟩
/-! ### take -/
structure SRec where
  A : Option Addr
  n : Nat
  c : Nat
  ps : List Rg
structure IRec where
  g : Bool
  A : Option Addr
  n : Nat
  c : Nat
  l : List Nat
/-- a variable that holds a slice of ranges -/
def VBox (w : World) (g : Nat) (A : Option Addr) (n c : Nat) : Prop := w.heap[g]? = some (.cells #[.slice A n c] 22 (0, 0))
theorem VBox.lt {w : World} {g n c : Nat} {A : Option Addr} (h : VBox w g A n c) : g < w.heap.size := (Array.getElem?_eq_some_iff.1 h).1
theorem VBox.cell {w : World} {g n c : Nat} {A : Option Addr} (h : VBox w g A n c) : w.cell? ⟨g, 0, none⟩ = some (.slice A n c) ∧ w.frozen? ⟨g, 0, none⟩ = false := by
  refine ⟨by rw [cell_of_row w g _ _ _ (0, 0) h]; rfl, ?_⟩
  unfold VBox at h; simp [World.frozen?, h]
theorem VBox.set {w : World} {g n c : Nat} {A : Option Addr} (h : VBox w g A n c) (A' : Option Addr) (n' c' : Nat) : VBox (w.setCell ⟨g, 0, none⟩ (.slice A' n' c')) g A' n' c' ∧ w.grownBy (w.setCell ⟨g, 0, none⟩ (.slice A' n' c')) (some g) := by
  refine ⟨?_, gb_setCell (gb_refl _ _) _ _⟩
  unfold VBox at h ⊢
  simp [World.setCell, Array.getElem?_modify, h]
structure TkIn (w : World) (P : Nat → Prop) (ads : List Nat) (ss : List SRec) : Prop where
  len : ss.length = ads.length
  box : ∀ (j ad : Nat) (s : SRec), ads[j]? = some ad → ss[j]? = some s → VBox w ad s.A s.n s.c
  set : ∀ s ∈ ss, SetP w P s.A s.n s.c s.ps ∧ Szs s.ps ∧ s.n ≤ 1073741824
  far : ∀ b, P b → b < w.heap.size ∧ b ∉ ads
  dis : ads.Nodup
structure InIn (w : World) (A : Option Addr) (ns : List IRec) : Prop where
  at_ : ∀ (j : Nat) (x : IRec), ns[j]? = some x → ∃ g o, A = some ⟨g, o, none⟩ ∧ g < w.heap.size ∧ w.cell? ⟨g, o + j * 2, none⟩ = some (.bool x.g) ∧ w.cell? ⟨g, o + j * 2 + 1, none⟩ = some (.slice x.A x.n x.c)
  sl : ∀ x ∈ ns, SlU w w.heap.size x.A x.n x.c x.l ∧ x.n ≤ 67108864
/-- only the blocks of ads have changed; more may lie behind -/
structure Chg (w w' : World) (ads : List Nat) : Prop where
  os : w'.os = w.os
  tape : w'.tape = w.tape
  output : w'.output = w.output
  size : w.heap.size ≤ w'.heap.size
  block : ∀ k, k < w.heap.size → k ∉ ads → w'.heap[k]? = w.heap[k]?
theorem Chg.of_below {w w' : World} {ads : List Nat} (h : Below w.heap.size w w') : Chg w w' ads := ⟨h.os, h.tape, h.output, h.size, fun k hk _ => h.block k hk⟩
theorem Chg.below {w w' : World} {ads : List Nat} {B : Nat} (h : Chg w w' ads) (hB : B ≤ w.heap.size) (ha : ∀ ad ∈ ads, B ≤ ad) : Below B w w' := ⟨h.os, h.tape, h.output, h.size, fun k hk => h.block k (by omega) (fun hm => by have := ha k hm; omega)⟩
/-- a set that has been looked over: normal, of the call's own -/
def Done (B : Nat) (w : World) (ad : Nat) (s : SRec) : Prop := ∃ A' n' c' qs, VBox w ad A' n' c' ∧ RRow w B (Fr B w) A' n' c' qs ∧ (∀ q ∈ qs, Gd q) ∧ NF (qs.map edsR) ∧ (∀ z, Hf.mem z (qs.map edsR) ↔ Hf.mem z (s.ps.map edsR)) ∧ (∀ r ∈ qs.map edsR, (∃ t ∈ s.ps.map edsR, t.1 = r.1) ∧ ∃ t ∈ s.ps.map edsR, t.2 = r.2) ∧ n' ≤ s.n ∧ n' ≤ 1000
theorem Done.keep {B ad : Nat} {w w' : World} {s : SRec} (h : Done B w ad s) (hb : ∀ b, (B ≤ b ∧ b < w.heap.size) ∨ b = ad → w'.heap[b]? = w.heap[b]?) (hz : w.heap.size ≤ w'.heap.size) : Done B w' ad s := by
  obtain ⟨A', n', c', qs, h1, h2, h3⟩ := h
  exact ⟨A', n', c', qs, (hb ad (.inr rfl)).trans h1, (h2.keepP (fun b k1 k2 => hb b (.inl ⟨k1, k2⟩)) (fun b k => hb b (.inl k))).wide (fun b k => ⟨k.1, Nat.lt_of_lt_of_le k.2 hz⟩), h3⟩
def anyLong (ss : List SRec) (ns : List IRec) : Bool := ss.any (fun s => longP s.ps) || ns.any fun x => lng x.l
def TakePost (w : World) (ads : List Nat) (ss : List SRec) (ns : List IRec) (e : Ending) (w' : World) : Prop :=
  Chg w w' ads ∧ ((e = .returned (.int .i64 10) ∧ anyLong ss ns = true) ∨
    (e = .returned (.int .i64 90) ∧ anyLong ss ns = false ∧ ∃ s ∈ ss, ∃ M, NF M ∧ (∀ z, Hf.mem z M ↔ Hf.mem z (s.ps.map edsR)) ∧ 1000 < M.length ∧ M.length ≤ s.n) ∨
    (e = .returned (.int .i64 0) ∧ anyLong ss ns = false ∧ ∀ (j ad : Nat) (s : SRec), ads[j]? = some ad → ss[j]? = some s → Done w.heap.size w' ad s))
/-- the third loop, behind k sets -/
structure T3 (w : World) (ads : List Nat) (ss : List SRec) (k : Nat) (wr : World) : Prop where
  chg : Chg w wr ads
  done : ∀ (j ad : Nat) (s : SRec), j < k → ads[j]? = some ad → ss[j]? = some s → Done w.heap.size wr ad s
  todo : ∀ (j ad : Nat) (s : SRec), k ≤ j → ads[j]? = some ad → ss[j]? = some s → VBox wr ad s.A s.n s.c
theorem T3.at_ {w wr : World} {P : Nat → Prop} {ads : List Nat} {ss : List SRec} {k ad : Nat} {s : SRec} (h : T3 w ads ss k wr) (hi : TkIn w P ads ss) (ha : ads[k]? = some ad) (hs : ss[k]? = some s) : VBox wr ad s.A s.n s.c ∧ ad < w.heap.size ∧ SetP wr P s.A s.n s.c s.ps ∧ (∀ b, P b → b < wr.heap.size) := by
  refine ⟨h.todo k ad s (Nat.le_refl _) ha hs, (hi.box k ad s ha hs).lt, (hi.set s (List.mem_of_getElem? hs)).1.keep (fun b hb => ⟨hb, h.chg.block b (hi.far b hb).1 (hi.far b hb).2⟩), fun b hb => Nat.lt_of_lt_of_le (hi.far b hb).1 h.chg.size⟩
theorem T3.next {w wr z1 z3 : World} {P : Nat → Prop} {ads : List Nat} {ss : List SRec} {k ad n' c' : Nat} {A' : Option Addr} {s : SRec} {qs : List Rg} (h : T3 w ads ss k wr) (hi : TkIn w P ads ss) (ha : ads[k]? = some ad) (hs : ss[k]? = some s)
    (hr : NormRes wr (s.ps.map edsR) s.n A' n' c' qs z1) (h3 : Below z1.heap.size (z1.setCell ⟨ad, 0, none⟩ (.slice A' n' c')) z3) (hn : n' ≤ 1000) : T3 w ads ss (k + 1) z3 := by
  obtain ⟨hrow, hg, hnf, hm, he, hle, hb⟩ := hr
  obtain ⟨hv, hadlt, _, _⟩ := h.at_ hi ha hs
  have hv1 : VBox z1 ad s.A s.n s.c := (hb.block ad hv.lt).trans hv
  obtain ⟨hv2, hg2⟩ := hv1.set A' n' c'
  have hs1 := h.chg.size
  have hs2 := hb.size
  have hs3 := h3.size
  rw [World.size_setCell] at hs3
  have hadm : ad ∈ ads := List.mem_of_getElem? ha
  have blk : ∀ b, b < wr.heap.size → b ≠ ad → z3.heap[b]? = wr.heap[b]? := fun b h1 h2 => ((h3.block b (by omega)).trans (hg2.block b (by omega) (fun e => by injection e with e; exact h2 e))).trans (hb.block b h1)
  refine ⟨⟨(h3.os.trans hg2.os).trans (hb.os.trans h.chg.os), (h3.tape.trans hg2.tape).trans (hb.tape.trans h.chg.tape), (h3.output.trans hg2.output).trans (hb.output.trans h.chg.output), by omega, fun b h1 h2 => (blk b (by omega) (fun e => h2 (e ▸ hadm))).trans (h.chg.block b h1 h2)⟩, fun j ad' s' hj ha' hs' => ?_, fun j ad' s' hj ha' hs' => ?_⟩
  · by_cases hjk : j = k
    · subst hjk
      rw [ha] at ha'
      rw [hs] at hs'
      injection ha' with ha'
      injection hs' with hs'
      subst ha'
      subst hs'
      refine ⟨A', n', c', qs, (h3.block ad (by omega)).trans hv2, ?_, hg, hnf, hm, he, hle, hn⟩
      have k1 : ∀ b, wr.heap.size ≤ b → b < z1.heap.size → z3.heap[b]? = z1.heap[b]? := fun b h1 h2 => (h3.block b h2).trans (hg2.block b h2 (fun e => by injection e with e; omega))
      exact ((hrow.keepP k1 (fun b hb => k1 b hb.1 hb.2)).wide (fun b hb => ⟨by omega, by omega⟩)).lower (by omega)
    · have hne : ad' ≠ ad := fun e => by
        subst e
        have hj' : j < ads.length := (List.getElem?_eq_some_iff.1 ha').1
        exact hjk ((List.getElem?_inj hj' hi.dis).1 (ha'.trans ha.symm))
      exact (h.done j ad' s' (by omega) ha' hs').keep (fun b hb => by
        rcases hb with hb | hb
        · exact blk b hb.2 (by omega)
        · subst hb
          exact blk _ (by have := (hi.box j _ s' ha' hs').lt; omega) hne) (by omega)
  · have hne : ad' ≠ ad := fun e => by
      subst e
      have hj' : j < ads.length := (List.getElem?_eq_some_iff.1 ha').1
      have := (List.getElem?_inj hj' hi.dis).1 (ha'.trans ha.symm)
      omega
    exact (blk ad' (by have := (hi.box j _ s' ha' hs').lt; omega) hne).trans (h.todo j ad' s' (by omega) ha' hs')
theorem T3.chg_next {w wr z1 z3 : World} {P : Nat → Prop} {ads : List Nat} {ss : List SRec} {k ad n' c' : Nat} {A' : Option Addr} {s : SRec} {L : List R} {n : Nat} {qs : List Rg} (h : T3 w ads ss k wr) (hi : TkIn w P ads ss) (ha : ads[k]? = some ad) (hs : ss[k]? = some s)
    (hr : NormRes wr L n A' n' c' qs z1) (h3 : Below z1.heap.size (z1.setCell ⟨ad, 0, none⟩ (.slice A' n' c')) z3) : Chg w z3 ads := by
  obtain ⟨hrow, hg, hnf, hm, he, hle, hb⟩ := hr
  obtain ⟨hv, hadlt, _, _⟩ := h.at_ hi ha hs
  have hv1 : VBox z1 ad s.A s.n s.c := (hb.block ad hv.lt).trans hv
  obtain ⟨hv2, hg2⟩ := hv1.set A' n' c'
  have hs1 := h.chg.size
  have hs2 := hb.size
  have hs3 := h3.size
  rw [World.size_setCell] at hs3
  have hadm : ad ∈ ads := List.mem_of_getElem? ha
  have blk : ∀ b, b < wr.heap.size → b ≠ ad → z3.heap[b]? = wr.heap[b]? := fun b h1 h2 => ((h3.block b (by omega)).trans (hg2.block b (by omega) (fun e => by injection e with e; exact h2 e))).trans (hb.block b h1)
  exact ⟨(h3.os.trans hg2.os).trans (hb.os.trans h.chg.os), (h3.tape.trans hg2.tape).trans (hb.tape.trans h.chg.tape), (h3.output.trans hg2.output).trans (hb.output.trans h.chg.output), by omega, fun b h1 h2 => (blk b (by omega) (fun e => h2 (e ▸ hadm))).trans (h.chg.block b h1 h2)⟩
/-- a set just made normal, looked over -/
theorem fine_res {wr z1 : World} {L : List R} {n n' c' ad : Nat} {A' : Option Addr} {qs : List Rg} {B' : World} (hr : NormRes wr L n A' n' c' qs z1) (hL : longE L = false) (hn : n ≤ 1073741824) (hv : ad < wr.heap.size) (hw : z1.grownBy B' (some ad)) (hz : B'.heap.size = z1.heap.size) :
    Calls Tryz.prog 72 #[.slice A' n' c', .bool false] B' (fun e w' => e = .returned (.int .i64 (if 1000 < n' then 90 else 0)) ∧ Below z1.heap.size B' w') := by
  obtain ⟨hrow, hg, hnf, hm, he, hle, hb⟩ := hr
  have hset := hrow.set (fun b h1 h2 => ⟨h1, h2⟩)
  have hl : longP qs = false := by rw [longP_E]; exact longE_ends hL he
  have h := fine_any (w := B') false (hset.keep (Q := Fr wr.heap.size z1) (fun b hb => ⟨hb, hw.block b hb.2 (fun e => by injection e with e; have := hb.1; omega)⟩)) (fun b hb => by rw [hz]; exact hb.2) (fun q hq => ⟨fun _ => (hg q hq).2.1, fun _ => (hg q hq).2.2⟩) (by omega)
  rw [hl, hz] at h
  have e : fineC false false n' = if 1000 < n' then 90 else 0 := by simp [fineC]
  rwa [e] at h
theorem long_upto {ss : List SRec} {k : Nat} {s : SRec} (hk : ss[k]? = some s) (h : (ss.take k).any (fun s => longP s.ps) = false) (hs : longP s.ps = false) : (ss.take (k + 1)).any (fun s => longP s.ps) = false := by
  rw [List.take_add_one, hk]
  simp at h ⊢
  exact ⟨h, hs⟩
theorem long_upto' {ns : List IRec} {k : Nat} {x : IRec} (hk : ns[k]? = some x) (h : (ns.take k).any (fun x => lng x.l) = false) (hs : lng x.l = false) : (ns.take (k + 1)).any (fun x => lng x.l) = false := by
  rw [List.take_add_one, hk]
  simp at h ⊢
  exact ⟨h, hs⟩
def IntBox (w : World) (g : Nat) (x : IRec) : Prop := w.heap[g]? = some (.cells #[.bool x.g, .slice x.A x.n x.c] 56 (0, 0))
set_option maxRecDepth 100000 in
set_option maxHeartbeats 8000000 in
theorem take_any {w : World} {P : Nat → Prop} {ads : List Nat} {ss : List SRec} {ns : List IRec} {G q r c ci : Nat} {AI : Option Addr} (hi : TkIn w P ads ss) (hn : InIn w AI ns) (hG : ∀ (j ad : Nat), ads[j]? = some ad → w.cell? ⟨G, j, none⟩ = some (.pointer (some ⟨ad, 0, none⟩))) (hGl : G < w.heap.size) (hGn : G ∉ ads)
    (hq : ads.length = q) (hr : ns.length = r) (hq9 : q ≤ 1000000) (hr9 : r ≤ 1000000) :
    Calls Tryz.prog 35 #[.slice AI r ci, .slice (some ⟨G, 0, none⟩) q c] w (TakePost w ads ss ns) := by
  have HI := Lib.hid hi
  have HN := Lib.hid hn
  have HG := Lib.hid (And.intro hG (And.intro hGl hGn))
  have HL := Lib.hid (And.intro hq hr)
  obtain ⟨B, hB⟩ : ∃ B, w.heap.size = B := ⟨_, rfl⟩
  have HB := Lib.hid hB
  have HB0 := Lib.hid (Below.refl B w)
  have HPost := Lib.hid (fun e w' => (Iff.rfl : TakePost w ads ss ns e w' ↔ TakePost w ads ss ns e w'))
  unfold TakePost
  clear hi hn hG hGl hGn hq hr hB
  go_enter Tryz.func35, Tryz.ntmps35
  go_wp2_with fail
  go_loopw [15] (fun vi wr => ∃ k, k ≤ q ∧ vi = .int .i64 (k : Nat) ∧ Hid (Below B w wr ∧ (ss.take k).any (fun s => longP s.ps) = false)) (fun vi _ => q - (intOf vi).toNat)
  case atStart => exact ⟨0, Nat.zero_le _, rfl, Lib.hid ⟨HB0.out, rfl⟩⟩
  case round =>
    obtain ⟨k, hk, rfl, HR⟩ := hrel
    clear HB0
    by_cases hkq : k < q
    · obtain ⟨ad, had⟩ : ∃ ad, ads[k]? = some ad := ⟨ads[k]'(by have := HL.out.1; omega), by simp⟩
      obtain ⟨s, hs⟩ : ∃ s, ss[k]? = some s := ⟨ss[k]'(by have := HL.out.1; have := HI.out.len; omega), by simp⟩
      have hv := HI.out.box k ad s had hs
      have hv2 : VBox wr ad s.A s.n s.c := (HR.out.1.block ad (by have := hv.lt; have := HB.out; omega)).trans hv
      have hst := HI.out.set s (List.mem_of_getElem? hs)
      have HF := Lib.hid (fine_any (w := wr) true (hst.1.keep (Q := P) (fun b hb => ⟨hb, HR.out.1.block b (by have := (HI.out.far b hb).1; have := HB.out; omega)⟩)) (fun b hb => Nat.lt_of_lt_of_le (HI.out.far b hb).1 HR.out.1.size) hst.2.1 hst.2.2)
      have HS := Lib.hid hs
      have hp := (HR.out.1.cell (p := ⟨G, k, none⟩) (show G < B by have := HG.out.2.1; have := HB.out; omega)).trans (HG.out.1 k ad had)
      obtain ⟨v0, _⟩ := hv2.cell
      obtain ⟨sA, sn, sc, sps⟩ := s
      simp only at v0 HF
      have hki : (k : Int) < (q : Int) := by omega
      have hk0 : (0 : Int) ≤ (k : Int) := by omega
      clear hv hv2 hst hs had
      cases hlo : longP sps
      · have e : fineC (longP sps) true sn = 0 := by rw [hlo]; rfl
        rw [e] at HF
        have HO := Lib.hid hlo
        clear e hlo
        go_wp2_with (go_at_call 72; (with_reducible refine HF.out.mono ?_); rintro e w4 ⟨rfl, hb4⟩)
        go_roundw
        case rel => exact ⟨k + 1, by omega, by go_num, Lib.hid ⟨HR.out.1.trans (hb4.mono (by have := HR.out.1.size; have := HB.out; omega)), long_upto HS.out HR.out.2 HO.out⟩⟩
        case measure => simp [intOf]; omega
      · have e : fineC (longP sps) true sn = 10 := by rw [hlo]; rfl
        rw [e] at HF
        have HO := Lib.hid hlo
        clear e hlo
        go_wp2_with (go_at_call 72; (with_reducible refine HF.out.mono ?_); rintro e w4 ⟨rfl, hb4⟩)
        go_ret
        refine ⟨Chg.of_below (by rw [HB.out]; exact HR.out.1.trans (hb4.mono (by have := HR.out.1.size; have := HB.out; omega))), .inl ⟨rfl, ?_⟩⟩
        unfold anyLong
        rw [Bool.or_eq_true]
        exact .inl (List.any_eq_true.2 ⟨_, List.mem_of_getElem? HS.out, HO.out⟩)
    · have hkq2 : k = q := by omega
      have hki : ¬ (k : Int) < (q : Int) := by omega
      have HF1 := Lib.hid (show ss.any (fun s => longP s.ps) = false by have := HR.out.2; rwa [List.take_of_length_le (by have := HL.out.1; have := HI.out.len; omega)] at this)
      have HR1 := Lib.hid HR.out.1
      clear hkq2 HR hk
      go_wp2_with fail
      go_loopw [29] (fun vi wr => ∃ k, k ≤ r ∧ vi = .int .i64 (k : Nat) ∧ Hid (Below B w wr ∧ (ns.take k).any (fun x => lng x.l) = false)) (fun vi _ => r - (intOf vi).toNat)
      case atStart => exact ⟨0, Nat.zero_le _, rfl, Lib.hid ⟨HR1.out, rfl⟩⟩
      case round =>
        obtain ⟨k2, hk, rfl, HR⟩ := hrel
        clear HR1
        by_cases hkr : k2 < r
        · obtain ⟨x, hx⟩ : ∃ x, ns[k2]? = some x := ⟨ns[k2]'(by have := HL.out.2; omega), by simp⟩
          obtain ⟨g, o, rfl, hg, q0, q1⟩ := HN.out.at_ k2 x hx
          have hsl := HN.out.sl x (List.mem_of_getElem? hx)
          have i0 := (HR.out.1.cell (p := ⟨g, o + k2 * 2, none⟩) (show g < B by have := HB.out; omega)).trans q0
          have i1 := (HR.out.1.cell (p := ⟨g, o + k2 * 2 + 1, none⟩) (show g < B by have := HB.out; omega)).trans q1
          have HX := Lib.hid hx
          obtain ⟨xg, xA, xn, xc, xl⟩ := x
          simp only at i0 i1 hsl
          have HBt := Lib.hid (fun (z : World) (hz : Below B w z) => bits_any xg (hsl.1.below (C := w.heap.size) (by rw [HB.out]; exact hz) (Nat.le_refl _)) hsl.2 (by rw [HB.out]; exact Nat.le_trans (Nat.le_of_eq HB.out.symm) hz.size))
          have HA := Lib.hid (show Below B w (wr.alloc (.cells #[.bool xg, .slice xA xn xc] 56)) from HR.out.1.alloc (by have := HR.out.1.size; have := HB.out; omega) _)
          have hX : IntBox (wr.alloc (.cells #[.bool xg, .slice xA xn xc] 56)) wr.heap.size ⟨xg, xA, xn, xc, xl⟩ := heap_alloc_new wr _
          have HLn := Lib.hid (show lng xl = decide (4096 < blen (nv W xl)) from rfl)
          generalize blen (nv W xl) = bl at *
          have hki : (k2 : Int) < (r : Int) := by omega
          have hk0 : (0 : Int) ≤ (k2 : Int) := by omega
          clear hx q0 q1 hsl hX
          by_cases hbl : 4096 < bl
          · have d1 : decide (4096 < (bl : Int)) = true := decide_eq_true (by omega)
            go_wp2_with (go_at_call 67; (with_reducible refine (HBt.out _ HA.out).mono ?_); rintro e w4 ⟨rfl, hb4⟩)
            go_ret
            refine ⟨Chg.of_below (by rw [HB.out]; exact HA.out.trans (hb4.mono (by have := HA.out.size; have := HB.out; omega))), .inl ⟨rfl, ?_⟩⟩
            unfold anyLong
            rw [Bool.or_eq_true]
            exact .inr (List.any_eq_true.2 ⟨_, List.mem_of_getElem? HX.out, by rw [HLn.out]; exact decide_eq_true hbl⟩)
          · have d1 : decide (4096 < (bl : Int)) = false := decide_eq_false (by omega)
            go_wp2_with (go_at_call 67; (with_reducible refine (HBt.out _ HA.out).mono ?_); rintro e w4 ⟨rfl, hb4⟩)
            go_roundw
            case rel => exact ⟨k2 + 1, by omega, by go_num, Lib.hid ⟨HA.out.trans (hb4.mono (by have := HA.out.size; have := HB.out; omega)), long_upto' HX.out HR.out.2 (by rw [HLn.out]; exact decide_eq_false hbl)⟩⟩
            case measure => simp [intOf]; omega
        · have hkr2 : k2 = r := by omega
          have hki : ¬ (k2 : Int) < (r : Int) := by omega
          have HAL := Lib.hid (show anyLong ss ns = false by
            have h2 := HR.out.2
            rw [List.take_of_length_le (by have := HL.out.2; omega)] at h2
            unfold anyLong
            rw [HF1.out, h2]; rfl)
          have HT0 := Lib.hid (show T3 w ads ss 0 wr from ⟨Chg.of_below (by rw [HB.out]; exact HR.out.1), fun j ad s h => absurd h (Nat.not_lt_zero _), fun j ad s _ h1 h2 => (HR.out.1.block ad (by have := (HI.out.box j ad s h1 h2).lt; have := HB.out; omega)).trans (HI.out.box j ad s h1 h2)⟩)
          clear hkr2 HR HF1 hk
          go_wp2_with fail
          go_loopw [39] (fun vi wr => ∃ k, k ≤ q ∧ vi = .int .i64 (k : Nat) ∧ Hid (T3 w ads ss k wr)) (fun vi _ => q - (intOf vi).toNat)
          case atStart => exact ⟨0, Nat.zero_le _, rfl, HT0⟩
          case round =>
            obtain ⟨k3, hk, rfl, HR⟩ := hrel
            clear HT0
            by_cases hkq : k3 < q
            · obtain ⟨ad, had⟩ : ∃ ad, ads[k3]? = some ad := ⟨ads[k3]'(by have := HL.out.1; omega), by simp⟩
              obtain ⟨s, hs⟩ : ∃ s, ss[k3]? = some s := ⟨ss[k3]'(by have := HL.out.1; have := HI.out.len; omega), by simp⟩
              obtain ⟨hv, hadl, hset, hPb⟩ := HR.out.at_ HI.out had hs
              have hst := HI.out.set s (List.mem_of_getElem? hs)
              have HNo := Lib.hid (normal_any (w := wr) hset hPb hst.2.1 hst.2.2)
              have HAS := Lib.hid (And.intro had hs)
              have hp : wr.cell? ⟨G, k3, none⟩ = some (.pointer (some ⟨ad, 0, none⟩)) := (World.cell?_of_block (a := ⟨G, k3, none⟩) (HR.out.chg.block G HG.out.2.1 HG.out.2.2)).trans (HG.out.1 k3 ad had)
              have HV := Lib.hid hv
              obtain ⟨v0, f0⟩ := hv.cell
              have HGp := Lib.hid hp
              have HSn := Lib.hid hst.2.2
              have HNl := Lib.hid (show longE (s.ps.map edsR) = false by
                have h2 := HAL.out
                unfold anyLong at h2
                rw [Bool.or_eq_false_iff] at h2
                have := (List.any_eq_false.1 h2.1) s (List.mem_of_getElem? hs)
                rw [← longP_E]
                simpa using this)
              obtain ⟨sA, sn, sc, sps⟩ := s
              simp only at v0 HNo HNl HV HSn
              have hki : (k3 : Int) < (q : Int) := by omega
              have hk0 : (0 : Int) ≤ (k3 : Int) := by omega
              clear hv hadl hset hPb hst had hs
              go_wp2_with (go_at_call 73; (with_reducible refine HNo.out.mono ?_); rintro e z1 ⟨A1, n1, c1, qs, rfl, hres⟩; have HRes := Lib.hid hres; have HV1 := Lib.hid (show VBox z1 ad sA sn sc from (hres.2.2.2.2.2.2.block ad HV.out.lt).trans HV.out); clear hres v0 f0; obtain ⟨v0, f0⟩ := HV1.out.cell)
              have HFi := Lib.hid (fine_res HRes.out HNl.out HSn.out HV.out.lt (HV1.out.set A1 n1 c1).2 (World.size_setCell _ _ _))
              have HVs := Lib.hid (HV1.out.set A1 n1 c1).1
              have hp1 : (z1.setCell ⟨ad, 0, none⟩ (.slice A1 n1 c1)).cell? ⟨ad, 0, none⟩ = some (.slice A1 n1 c1) := HVs.out.cell.1
              by_cases h9 : 1000 < n1
              · rw [if_pos h9] at HFi
                have HT := Lib.hid (fun z3 h3 => HR.out.chg_next (z3 := z3) HI.out HAS.out.1 HAS.out.2 HRes.out h3)
                have H9 := Lib.hid h9
                clear h9
                (with_reducible refine HFi.out.mono ?_)
                rintro e z3 ⟨rfl, hb3⟩
                have HB3 := Lib.hid hb3
                clear hb3
                go_wp2_with fail
                go_ret
                refine ⟨HT.out _ HB3.out, .inr (.inl ⟨rfl, HAL.out, _, List.mem_of_getElem? HAS.out.2, qs.map edsR, HRes.out.2.2.1, HRes.out.2.2.2.1, ?_⟩)⟩
                rw [List.length_map, HRes.out.1.len]
                exact ⟨H9.out, HRes.out.2.2.2.2.2.1⟩
              · rw [if_neg h9] at HFi
                have HT := Lib.hid (fun z3 h3 => HR.out.next (z3 := z3) HI.out HAS.out.1 HAS.out.2 HRes.out h3 (by omega))
                clear h9
                (with_reducible refine HFi.out.mono ?_)
                rintro e z3 ⟨rfl, hb3⟩
                have HT3 := Lib.hid (HT.out _ hb3)
                clear hb3
                go_wp2_with fail
                go_roundw
                case rel => exact ⟨k3 + 1, by omega, by go_num, HT3⟩
                case measure => simp [intOf]; omega
            · have hkq2 : k3 = q := by omega
              have hki : ¬ (k3 : Int) < (q : Int) := by omega
              have HD := Lib.hid (fun j ad s h1 h2 => HR.out.done j ad s (by have := HL.out.1; have := (List.getElem?_eq_some_iff.1 h1).1; omega) h1 h2)
              clear hkq2
              go_wp2_with fail
              go_ret
              exact ⟨HR.out.chg, .inr (.inr ⟨rfl, HAL.out, HD.out⟩)⟩
end Go.Proofs.YtpikjceodmepiaaGreatDoor

