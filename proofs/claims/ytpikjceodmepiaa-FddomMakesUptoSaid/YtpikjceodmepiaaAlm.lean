import Derived.Test.YtpikjceodmepiaaAkm
import Derived.Test.YtpikjceodmepiaaYrm
set_option linter.unusedVariables false
set_option linter.unusedSimpArgs false
namespace Go.Proofs.Ytpikjceodmepiaa
open Go.RowKit Hb Hf
set_option linter.unusedVariables false
set_option linter.unusedSimpArgs false
attribute [local go_sem ↓] Go.wp_at_zero Go.wp_at_succ
/-! ### take, with what is not frozen -/
theorem NormResT.res {w w' : World} {L : List R} {n n' c' : Nat} {A' : Option Addr} {qs : List Rg} (h : NormResT w L n A' n' c' qs w') : NormRes w L n A' n' c' qs w' :=
  ⟨h.1.wide (fun b hb => hb.1), h.2⟩
/-- a set that has been looked over: normal, of the call's own -/
def DoneT (B : Nat) (w : World) (ad : Nat) (s : SRec) : Prop := ∃ A' n' c' qs, VBox w ad A' n' c' ∧ RRow w B (Ft B w) A' n' c' qs ∧ (∀ q ∈ qs, Gd q) ∧ NF (qs.map edsR) ∧ (∀ z, Hf.mem z (qs.map edsR) ↔ Hf.mem z (s.ps.map edsR)) ∧ (∀ r ∈ qs.map edsR, (∃ t ∈ s.ps.map edsR, t.1 = r.1) ∧ ∃ t ∈ s.ps.map edsR, t.2 = r.2) ∧ n' ≤ s.n ∧ n' ≤ 1000
theorem DoneT.keep {B ad : Nat} {w w' : World} {s : SRec} (h : DoneT B w ad s) (hb : ∀ b, (B ≤ b ∧ b < w.heap.size) ∨ b = ad → w'.heap[b]? = w.heap[b]?) (hz : w.heap.size ≤ w'.heap.size) : DoneT B w' ad s := by
  obtain ⟨A', n', c', qs, h1, h2, h3⟩ := h
  exact ⟨A', n', c', qs, (hb ad (.inr rfl)).trans h1, (h2.keepP (fun b k1 k2 => hb b (.inl ⟨k1, k2⟩)) (fun b k => hb b (.inl k.1))).wide (fun b k => ⟨⟨k.1.1, Nat.lt_of_lt_of_le k.1.2 hz⟩, k.2.of (hb b (.inl k.1))⟩), h3⟩
def TakePostT (w : World) (ads : List Nat) (ss : List SRec) (ns : List IRec) (e : Ending) (w' : World) : Prop :=
  Chg w w' ads ∧ ((e = .returned (.int .i64 10) ∧ anyLong ss ns = true) ∨
    (e = .returned (.int .i64 90) ∧ anyLong ss ns = false ∧ ∃ s ∈ ss, ∃ M, NF M ∧ (∀ z, Hf.mem z M ↔ Hf.mem z (s.ps.map edsR)) ∧ 1000 < M.length ∧ M.length ≤ s.n) ∨
    (e = .returned (.int .i64 0) ∧ anyLong ss ns = false ∧ ∀ (j ad : Nat) (s : SRec), ads[j]? = some ad → ss[j]? = some s → DoneT w.heap.size w' ad s))
/-- the third loop, behind k sets -/
structure T3t (w : World) (ads : List Nat) (ss : List SRec) (k : Nat) (wr : World) : Prop where
  chg : Chg w wr ads
  done : ∀ (j ad : Nat) (s : SRec), j < k → ads[j]? = some ad → ss[j]? = some s → DoneT w.heap.size wr ad s
  todo : ∀ (j ad : Nat) (s : SRec), k ≤ j → ads[j]? = some ad → ss[j]? = some s → VBox wr ad s.A s.n s.c
theorem T3t.at_ {w wr : World} {P : Nat → Prop} {ads : List Nat} {ss : List SRec} {k ad : Nat} {s : SRec} (h : T3t w ads ss k wr) (hi : TkIn w P ads ss) (ha : ads[k]? = some ad) (hs : ss[k]? = some s) : VBox wr ad s.A s.n s.c ∧ ad < w.heap.size ∧ SetP wr P s.A s.n s.c s.ps ∧ (∀ b, P b → b < wr.heap.size) := by
  refine ⟨h.todo k ad s (Nat.le_refl _) ha hs, (hi.box k ad s ha hs).lt, (hi.set s (List.mem_of_getElem? hs)).1.keep (fun b hb => ⟨hb, h.chg.block b (hi.far b hb).1 (hi.far b hb).2⟩), fun b hb => Nat.lt_of_lt_of_le (hi.far b hb).1 h.chg.size⟩
theorem T3t.next {w wr z1 z3 : World} {P : Nat → Prop} {ads : List Nat} {ss : List SRec} {k ad n' c' : Nat} {A' : Option Addr} {s : SRec} {qs : List Rg} (h : T3t w ads ss k wr) (hi : TkIn w P ads ss) (ha : ads[k]? = some ad) (hs : ss[k]? = some s)
    (hr : NormResT wr (s.ps.map edsR) s.n A' n' c' qs z1) (h3 : Below z1.heap.size (z1.setCell ⟨ad, 0, none⟩ (.slice A' n' c')) z3) (hn : n' ≤ 1000) : T3t w ads ss (k + 1) z3 := by
  obtain ⟨hrow, hg, hnf, hm, he, hle, hb⟩ := hr
  obtain ⟨hv, hadlt, _, _⟩ := h.at_ hi ha hs
  have hv1 : VBox z1 ad s.A s.n s.c := (hb.block ad hv.lt).trans hv
  obtain ⟨hv2, hg2⟩ := hv1.set A' n' c'
  have hs1 := h.chg.size
  have hs2 := hb.size
  have hs3 := h3.size
  rw [World.size_setCell] at hs3
  have hadm : ad ∈ ads := List.mem_of_getElem? ha
  have blk : ∀ b, b < wr.heap.size → b ≠ ad → z3.heap[b]? = wr.heap[b]? := fun b h1 h2 => ((h3.block b (by omega)).trans (hg2.block b (by omega) (fun e => by injection e with e; exact h2 e))).trans (hb.block b h1)
  refine ⟨⟨(h3.os.trans hg2.os).trans (hb.os.trans h.chg.os), (h3.tape.trans hg2.tape).trans (hb.tape.trans h.chg.tape), (h3.output.trans hg2.output).trans (hb.output.trans h.chg.output), by omega, fun b h1 h2 => (blk b (by omega) (fun e => h2 (e ▸ hadm))).trans (h.chg.block b h1 h2)⟩, fun j ad' s' hj ha' hs' => ?_, fun j ad' s' hj ha' hs' => ?_⟩
  · by_cases hjk : j = k
    · subst hjk
      rw [ha] at ha'
      rw [hs] at hs'
      injection ha' with ha'
      injection hs' with hs'
      subst ha'
      subst hs'
      refine ⟨A', n', c', qs, (h3.block ad (by omega)).trans hv2, ?_, hg, hnf, hm, he, hle, hn⟩
      have k1 : ∀ b, wr.heap.size ≤ b → b < z1.heap.size → z3.heap[b]? = z1.heap[b]? := fun b h1 h2 => (h3.block b h2).trans (hg2.block b h2 (fun e => by injection e with e; omega))
      exact ((hrow.keepP k1 (fun b hb => k1 b hb.1.1 hb.1.2)).wide (fun b hb => ⟨⟨by have := hb.1.1; omega, by have := hb.1.2; omega⟩, hb.2.of (k1 b hb.1.1 hb.1.2)⟩)).lower (by omega)
    · have hne : ad' ≠ ad := fun e => by
        subst e
        have hj' : j < ads.length := (List.getElem?_eq_some_iff.1 ha').1
        exact hjk ((List.getElem?_inj hj' hi.dis).1 (ha'.trans ha.symm))
      exact (h.done j ad' s' (by omega) ha' hs').keep (fun b hb => by
        rcases hb with hb | hb
        · exact blk b hb.2 (by omega)
        · subst hb
          exact blk _ (by have := (hi.box j _ s' ha' hs').lt; omega) hne) (by omega)
  · have hne : ad' ≠ ad := fun e => by
      subst e
      have hj' : j < ads.length := (List.getElem?_eq_some_iff.1 ha').1
      have := (List.getElem?_inj hj' hi.dis).1 (ha'.trans ha.symm)
      omega
    exact (blk ad' (by have := (hi.box j _ s' ha' hs').lt; omega) hne).trans (h.todo j ad' s' (by omega) ha' hs')
theorem T3t.chg_next {w wr z1 z3 : World} {P : Nat → Prop} {ads : List Nat} {ss : List SRec} {k ad n' c' : Nat} {A' : Option Addr} {s : SRec} {L : List R} {n : Nat} {qs : List Rg} (h : T3t w ads ss k wr) (hi : TkIn w P ads ss) (ha : ads[k]? = some ad) (hs : ss[k]? = some s)
    (hr : NormResT wr L n A' n' c' qs z1) (h3 : Below z1.heap.size (z1.setCell ⟨ad, 0, none⟩ (.slice A' n' c')) z3) : Chg w z3 ads := by
  obtain ⟨hrow, hg, hnf, hm, he, hle, hb⟩ := hr
  obtain ⟨hv, hadlt, _, _⟩ := h.at_ hi ha hs
  have hv1 : VBox z1 ad s.A s.n s.c := (hb.block ad hv.lt).trans hv
  obtain ⟨hv2, hg2⟩ := hv1.set A' n' c'
  have hs1 := h.chg.size
  have hs2 := hb.size
  have hs3 := h3.size
  rw [World.size_setCell] at hs3
  have hadm : ad ∈ ads := List.mem_of_getElem? ha
  have blk : ∀ b, b < wr.heap.size → b ≠ ad → z3.heap[b]? = wr.heap[b]? := fun b h1 h2 => ((h3.block b (by omega)).trans (hg2.block b (by omega) (fun e => by injection e with e; exact h2 e))).trans (hb.block b h1)
  exact ⟨(h3.os.trans hg2.os).trans (hb.os.trans h.chg.os), (h3.tape.trans hg2.tape).trans (hb.tape.trans h.chg.tape), (h3.output.trans hg2.output).trans (hb.output.trans h.chg.output), by omega, fun b h1 h2 => (blk b (by omega) (fun e => h2 (e ▸ hadm))).trans (h.chg.block b h1 h2)⟩
set_option maxRecDepth 100000 in
set_option maxHeartbeats 8000000 in
theorem take_t {w : World} {P : Nat → Prop} {ads : List Nat} {ss : List SRec} {ns : List IRec} {G q r c ci : Nat} {AI : Option Addr} (hi : TkIn w P ads ss) (hn : InIn w AI ns) (hG : ∀ (j ad : Nat), ads[j]? = some ad → w.cell? ⟨G, j, none⟩ = some (.pointer (some ⟨ad, 0, none⟩))) (hGl : G < w.heap.size) (hGn : G ∉ ads)
    (hq : ads.length = q) (hr : ns.length = r) (hq9 : q ≤ 1000000) (hr9 : r ≤ 1000000) :
    Calls Try.prog 32 #[.slice AI r ci, .slice (some ⟨G, 0, none⟩) q c] w (TakePostT w ads ss ns) := by
  have HI := Lib.hid hi
  have HN := Lib.hid hn
  have HG := Lib.hid (And.intro hG (And.intro hGl hGn))
  have HL := Lib.hid (And.intro hq hr)
  obtain ⟨B, hB⟩ : ∃ B, w.heap.size = B := ⟨_, rfl⟩
  have HB := Lib.hid hB
  have HB0 := Lib.hid (Below.refl B w)
  have HPost := Lib.hid (fun e w' => (Iff.rfl : TakePostT w ads ss ns e w' ↔ TakePostT w ads ss ns e w'))
  unfold TakePostT
  clear hi hn hG hGl hGn hq hr hB
  go_enter Try.func32, Try.ntmps32
  go_wp2_with fail
  go_loopw [15] (fun vi wr => ∃ k, k ≤ q ∧ vi = .int .i64 (k : Nat) ∧ Hid (Below B w wr ∧ (ss.take k).any (fun s => longP s.ps) = false)) (fun vi _ => q - (intOf vi).toNat)
  case atStart => exact ⟨0, Nat.zero_le _, rfl, Lib.hid ⟨HB0.out, rfl⟩⟩
  case round =>
    obtain ⟨k, hk, rfl, HR⟩ := hrel
    clear HB0
    by_cases hkq : k < q
    · obtain ⟨ad, had⟩ : ∃ ad, ads[k]? = some ad := ⟨ads[k]'(by have := HL.out.1; omega), by simp⟩
      obtain ⟨s, hs⟩ : ∃ s, ss[k]? = some s := ⟨ss[k]'(by have := HL.out.1; have := HI.out.len; omega), by simp⟩
      have hv := HI.out.box k ad s had hs
      have hv2 : VBox wr ad s.A s.n s.c := (HR.out.1.block ad (by have := hv.lt; have := HB.out; omega)).trans hv
      have hst := HI.out.set s (List.mem_of_getElem? hs)
      have HF := Lib.hid (fine_any (w := wr) true (hst.1.keep (Q := P) (fun b hb => ⟨hb, HR.out.1.block b (by have := (HI.out.far b hb).1; have := HB.out; omega)⟩)) (fun b hb => Nat.lt_of_lt_of_le (HI.out.far b hb).1 HR.out.1.size) hst.2.1 hst.2.2)
      have HS := Lib.hid hs
      have hp := (HR.out.1.cell (p := ⟨G, k, none⟩) (show G < B by have := HG.out.2.1; have := HB.out; omega)).trans (HG.out.1 k ad had)
      obtain ⟨v0, _⟩ := hv2.cell
      obtain ⟨sA, sn, sc, sps⟩ := s
      simp only at v0 HF
      have hki : (k : Int) < (q : Int) := by omega
      have hk0 : (0 : Int) ≤ (k : Int) := by omega
      clear hv hv2 hst hs had
      cases hlo : longP sps
      · have e : fineC (longP sps) true sn = 0 := by rw [hlo]; rfl
        rw [e] at HF
        have HO := Lib.hid hlo
        clear e hlo
        go_wp2_with (go_at_call 59; (with_reducible refine HF.out.mono ?_); rintro e w4 ⟨rfl, hb4⟩)
        go_roundw
        case rel => exact ⟨k + 1, by omega, by go_num, Lib.hid ⟨HR.out.1.trans (hb4.mono (by have := HR.out.1.size; have := HB.out; omega)), long_upto HS.out HR.out.2 HO.out⟩⟩
        case measure => simp [intOf]; omega
      · have e : fineC (longP sps) true sn = 10 := by rw [hlo]; rfl
        rw [e] at HF
        have HO := Lib.hid hlo
        clear e hlo
        go_wp2_with (go_at_call 59; (with_reducible refine HF.out.mono ?_); rintro e w4 ⟨rfl, hb4⟩)
        go_ret
        refine ⟨Chg.of_below (by rw [HB.out]; exact HR.out.1.trans (hb4.mono (by have := HR.out.1.size; have := HB.out; omega))), .inl ⟨rfl, ?_⟩⟩
        unfold anyLong
        rw [Bool.or_eq_true]
        exact .inl (List.any_eq_true.2 ⟨_, List.mem_of_getElem? HS.out, HO.out⟩)
    · have hkq2 : k = q := by omega
      have hki : ¬ (k : Int) < (q : Int) := by omega
      have HF1 := Lib.hid (show ss.any (fun s => longP s.ps) = false by have := HR.out.2; rwa [List.take_of_length_le (by have := HL.out.1; have := HI.out.len; omega)] at this)
      have HR1 := Lib.hid HR.out.1
      clear hkq2 HR hk
      go_wp2_with fail
      go_loopw [29] (fun vi wr => ∃ k, k ≤ r ∧ vi = .int .i64 (k : Nat) ∧ Hid (Below B w wr ∧ (ns.take k).any (fun x => lng x.l) = false)) (fun vi _ => r - (intOf vi).toNat)
      case atStart => exact ⟨0, Nat.zero_le _, rfl, Lib.hid ⟨HR1.out, rfl⟩⟩
      case round =>
        obtain ⟨k2, hk, rfl, HR⟩ := hrel
        clear HR1
        by_cases hkr : k2 < r
        · obtain ⟨x, hx⟩ : ∃ x, ns[k2]? = some x := ⟨ns[k2]'(by have := HL.out.2; omega), by simp⟩
          obtain ⟨g, o, rfl, hg, q0, q1⟩ := HN.out.at_ k2 x hx
          have hsl := HN.out.sl x (List.mem_of_getElem? hx)
          have i0 := (HR.out.1.cell (p := ⟨g, o + k2 * 2, none⟩) (show g < B by have := HB.out; omega)).trans q0
          have i1 := (HR.out.1.cell (p := ⟨g, o + k2 * 2 + 1, none⟩) (show g < B by have := HB.out; omega)).trans q1
          have HX := Lib.hid hx
          obtain ⟨xg, xA, xn, xc, xl⟩ := x
          simp only at i0 i1 hsl
          have HBt := Lib.hid (fun (z : World) (hz : Below B w z) => bits_any xg (hsl.1.below (C := w.heap.size) (by rw [HB.out]; exact hz) (Nat.le_refl _)) hsl.2 (by rw [HB.out]; exact Nat.le_trans (Nat.le_of_eq HB.out.symm) hz.size))
          have HA := Lib.hid (show Below B w (wr.alloc (.cells #[.bool xg, .slice xA xn xc] 25)) from HR.out.1.alloc (by have := HR.out.1.size; have := HB.out; omega) _)
          have hX : IntBox (wr.alloc (.cells #[.bool xg, .slice xA xn xc] 25)) wr.heap.size ⟨xg, xA, xn, xc, xl⟩ := heap_alloc_new wr _
          have HLn := Lib.hid (show lng xl = decide (4096 < blen (nv W xl)) from rfl)
          generalize blen (nv W xl) = bl at *
          have hki : (k2 : Int) < (r : Int) := by omega
          have hk0 : (0 : Int) ≤ (k2 : Int) := by omega
          clear hx q0 q1 hsl hX
          by_cases hbl : 4096 < bl
          · have d1 : decide (4096 < (bl : Int)) = true := decide_eq_true (by omega)
            go_wp2_with (go_at_call 49; (with_reducible refine (HBt.out _ HA.out).mono ?_); rintro e w4 ⟨rfl, hb4⟩)
            go_ret
            refine ⟨Chg.of_below (by rw [HB.out]; exact HA.out.trans (hb4.mono (by have := HA.out.size; have := HB.out; omega))), .inl ⟨rfl, ?_⟩⟩
            unfold anyLong
            rw [Bool.or_eq_true]
            exact .inr (List.any_eq_true.2 ⟨_, List.mem_of_getElem? HX.out, by rw [HLn.out]; exact decide_eq_true hbl⟩)
          · have d1 : decide (4096 < (bl : Int)) = false := decide_eq_false (by omega)
            go_wp2_with (go_at_call 49; (with_reducible refine (HBt.out _ HA.out).mono ?_); rintro e w4 ⟨rfl, hb4⟩)
            go_roundw
            case rel => exact ⟨k2 + 1, by omega, by go_num, Lib.hid ⟨HA.out.trans (hb4.mono (by have := HA.out.size; have := HB.out; omega)), long_upto' HX.out HR.out.2 (by rw [HLn.out]; exact decide_eq_false hbl)⟩⟩
            case measure => simp [intOf]; omega
        · have hkr2 : k2 = r := by omega
          have hki : ¬ (k2 : Int) < (r : Int) := by omega
          have HAL := Lib.hid (show anyLong ss ns = false by
            have h2 := HR.out.2
            rw [List.take_of_length_le (by have := HL.out.2; omega)] at h2
            unfold anyLong
            rw [HF1.out, h2]; rfl)
          have HT0 := Lib.hid (show T3t w ads ss 0 wr from ⟨Chg.of_below (by rw [HB.out]; exact HR.out.1), fun j ad s h => absurd h (Nat.not_lt_zero _), fun j ad s _ h1 h2 => (HR.out.1.block ad (by have := (HI.out.box j ad s h1 h2).lt; have := HB.out; omega)).trans (HI.out.box j ad s h1 h2)⟩)
          clear hkr2 HR HF1 hk
          go_wp2_with fail
          go_loopw [39] (fun vi wr => ∃ k, k ≤ q ∧ vi = .int .i64 (k : Nat) ∧ Hid (T3t w ads ss k wr)) (fun vi _ => q - (intOf vi).toNat)
          case atStart => exact ⟨0, Nat.zero_le _, rfl, HT0⟩
          case round =>
            obtain ⟨k3, hk, rfl, HR⟩ := hrel
            clear HT0
            by_cases hkq : k3 < q
            · obtain ⟨ad, had⟩ : ∃ ad, ads[k3]? = some ad := ⟨ads[k3]'(by have := HL.out.1; omega), by simp⟩
              obtain ⟨s, hs⟩ : ∃ s, ss[k3]? = some s := ⟨ss[k3]'(by have := HL.out.1; have := HI.out.len; omega), by simp⟩
              obtain ⟨hv, hadl, hset, hPb⟩ := HR.out.at_ HI.out had hs
              have hst := HI.out.set s (List.mem_of_getElem? hs)
              have HNo := Lib.hid (normal_t (w := wr) hset hPb hst.2.1 hst.2.2)
              have HAS := Lib.hid (And.intro had hs)
              have hp : wr.cell? ⟨G, k3, none⟩ = some (.pointer (some ⟨ad, 0, none⟩)) := (World.cell?_of_block (a := ⟨G, k3, none⟩) (HR.out.chg.block G HG.out.2.1 HG.out.2.2)).trans (HG.out.1 k3 ad had)
              have HV := Lib.hid hv
              obtain ⟨v0, f0⟩ := hv.cell
              have HGp := Lib.hid hp
              have HSn := Lib.hid hst.2.2
              have HNl := Lib.hid (show longE (s.ps.map edsR) = false by
                have h2 := HAL.out
                unfold anyLong at h2
                rw [Bool.or_eq_false_iff] at h2
                have := (List.any_eq_false.1 h2.1) s (List.mem_of_getElem? hs)
                rw [← longP_E]
                simpa using this)
              obtain ⟨sA, sn, sc, sps⟩ := s
              simp only at v0 HNo HNl HV HSn
              have hki : (k3 : Int) < (q : Int) := by omega
              have hk0 : (0 : Int) ≤ (k3 : Int) := by omega
              clear hv hadl hset hPb hst had hs
              go_wp2_with (go_at_call 60; (with_reducible refine HNo.out.mono ?_); rintro e z1 ⟨A1, n1, c1, qs, rfl, hres⟩; have HRes := Lib.hid hres; have HV1 := Lib.hid (show VBox z1 ad sA sn sc from (hres.2.2.2.2.2.2.block ad HV.out.lt).trans HV.out); clear hres v0 f0; obtain ⟨v0, f0⟩ := HV1.out.cell)
              have HFi := Lib.hid (fine_res HRes.out.res HNl.out HSn.out HV.out.lt (HV1.out.set A1 n1 c1).2 (World.size_setCell _ _ _))
              have HVs := Lib.hid (HV1.out.set A1 n1 c1).1
              have hp1 : (z1.setCell ⟨ad, 0, none⟩ (.slice A1 n1 c1)).cell? ⟨ad, 0, none⟩ = some (.slice A1 n1 c1) := HVs.out.cell.1
              by_cases h9 : 1000 < n1
              · rw [if_pos h9] at HFi
                have HT := Lib.hid (fun z3 h3 => HR.out.chg_next (z3 := z3) HI.out HAS.out.1 HAS.out.2 HRes.out h3)
                have H9 := Lib.hid h9
                clear h9
                (with_reducible refine HFi.out.mono ?_)
                rintro e z3 ⟨rfl, hb3⟩
                have HB3 := Lib.hid hb3
                clear hb3
                go_wp2_with fail
                go_ret
                refine ⟨HT.out _ HB3.out, .inr (.inl ⟨rfl, HAL.out, _, List.mem_of_getElem? HAS.out.2, qs.map edsR, HRes.out.2.2.1, HRes.out.2.2.2.1, ?_⟩)⟩
                rw [List.length_map, HRes.out.1.len]
                exact ⟨H9.out, HRes.out.2.2.2.2.2.1⟩
              · rw [if_neg h9] at HFi
                have HT := Lib.hid (fun z3 h3 => HR.out.next (z3 := z3) HI.out HAS.out.1 HAS.out.2 HRes.out h3 (by omega))
                clear h9
                (with_reducible refine HFi.out.mono ?_)
                rintro e z3 ⟨rfl, hb3⟩
                have HT3 := Lib.hid (HT.out _ hb3)
                clear hb3
                go_wp2_with fail
                go_roundw
                case rel => exact ⟨k3 + 1, by omega, by go_num, HT3⟩
                case measure => simp [intOf]; omega
            · have hkq2 : k3 = q := by omega
              have hki : ¬ (k3 : Int) < (q : Int) := by omega
              have HD := Lib.hid (fun j ad s h1 h2 => HR.out.done j ad s (by have := HL.out.1; have := (List.getElem?_eq_some_iff.1 h1).1; omega) h1 h2)
              clear hkq2
              go_wp2_with fail
              go_ret
              exact ⟨HR.out.chg, .inr (.inr ⟨rfl, HAL.out, HD.out⟩)⟩
/-! ### Norm of any set -/
def NormTB (B : Nat) (w : World) (ps : List Rg) (e : Ending) (w' : World) : Prop :=
  Below B w w' ∧ ((e = .returned (.tuple #[.slice none 0 0, .int .i64 10]) ∧ longP ps = true) ∨
    (e = .returned (.tuple #[.slice none 0 0, .int .i64 90]) ∧ longP ps = false ∧ ∃ M, NF M ∧ (∀ z, Hf.mem z M ↔ Hf.mem z (ps.map edsR)) ∧ 1000 < M.length) ∨
    (∃ A1 n1 c1 qs, e = .returned (.tuple #[.slice A1 n1 c1, .int .i64 0]) ∧ longP ps = false ∧ RRow w' B (Ft B w') A1 n1 c1 qs ∧ (∀ q ∈ qs, Gd q) ∧ NF (qs.map edsR) ∧ (∀ z, Hf.mem z (qs.map edsR) ↔ Hf.mem z (ps.map edsR)) ∧ n1 ≤ 1000))
def NormT (w : World) (ps : List Rg) (e : Ending) (w' : World) : Prop := NormTB w.heap.size w ps e w'
theorem V1_take_t {w : World} {P : Nat → Prop} {A : Option Addr} {n c : Nat} {ps : List Rg} (h : SetP w P A n c ps) (hP : ∀ b, P b → b < w.heap.size) (hs : Szs ps) (hn : n ≤ 1073741824) :
    Calls Try.prog 32 #[.slice none 0 0, .slice (some ⟨w.heap.size + 1, 0, none⟩) 1 1] (V1 w A n c) fun e w' => Below w.heap.size w w' ∧ w.heap.size + 2 ≤ w'.heap.size ∧
      ((e = .returned (.int .i64 10) ∧ longP ps = true) ∨ (e = .returned (.int .i64 90) ∧ longP ps = false ∧ ∃ M, NF M ∧ (∀ z, Hf.mem z M ↔ Hf.mem z (ps.map edsR)) ∧ 1000 < M.length) ∨
       (e = .returned (.int .i64 0) ∧ longP ps = false ∧ ∃ A1 n1 c1 qs, VBox w' w.heap.size A1 n1 c1 ∧ RRow w' w.heap.size (Ft w.heap.size w') A1 n1 c1 qs ∧ (∀ q ∈ qs, Gd q) ∧ NF (qs.map edsR) ∧ (∀ z, Hf.mem z (qs.map edsR) ↔ Hf.mem z (ps.map edsR)) ∧ n1 ≤ 1000)) := by
  obtain ⟨hb, hz, hv, hc⟩ := V1_facts w A n c
  have hk := h.keep (w' := V1 w A n c) (Q := P) (fun b hb2 => ⟨hb2, hb.block b (hP b hb2)⟩)
  generalize V1 w A n c = W at *
  have hT := take_t (w := W) (P := P) (ads := [w.heap.size]) (ss := [⟨A, n, c, ps⟩]) (ns := []) (G := w.heap.size + 1) (q := 1) (r := 0) (c := 1) (ci := 0) (AI := none)
    ⟨rfl, fun j ad s h1 h2 => by
      match j with
      | 0 => cases h1; cases h2; exact hv
      | j + 1 => simp at h1, fun s hs2 => by
      rw [List.mem_singleton.1 hs2]
      exact ⟨hk, hs, hn⟩, fun b hb2 => ⟨by have := hP b hb2; omega, by have := hP b hb2; simp; omega⟩, by simp⟩
    (InIn.nil W) (fun j ad h1 => by
      match j with
      | 0 => cases h1; exact hc
      | j + 1 => simp at h1) (by omega) (by simp) rfl rfl (by omega) (by omega)
  have hnl : anyLong [⟨A, n, c, ps⟩] [] = longP ps := by simp [anyLong]
  refine hT.mono fun e w' ⟨hch, hcs⟩ => ?_
  rw [hnl] at hcs
  have hs3 := hch.size
  rw [hz] at hs3
  refine ⟨hb.trans (hch.below (by omega) (fun ad had => by simp at had; omega)), hs3, ?_⟩
  rcases hcs with ⟨he, h1⟩ | ⟨he, h0, s, hs2, M', h1, h2, h3, h4⟩ | ⟨he, h0, hd⟩
  · exact .inl ⟨he, h1⟩
  · rw [List.mem_singleton.1 hs2] at h2
    exact .inr (.inl ⟨he, h0, M', h1, h2, h3⟩)
  · obtain ⟨A1, n1, c1, qs, k1, k2, k3, k4, k5, k6, k7, k8⟩ := hd 0 _ _ rfl rfl
    rw [hz] at k2
    exact .inr (.inr ⟨he, h0, A1, n1, c1, qs, k1, (k2.lower (by omega)).wide (fun b hb2 => ⟨⟨by have := hb2.1.1; omega, hb2.1.2⟩, hb2.2⟩), k3, k4, k5, k8⟩)
set_option maxHeartbeats 1000000 in
theorem Norm_t {w : World} {P : Nat → Prop} {A : Option Addr} {n c : Nat} {ps : List Rg} (h : SetP w P A n c ps) (hP : ∀ b, P b → b < w.heap.size) (hs : Szs ps) (hn : n ≤ 1073741824) :
    Calls Try.prog 9 #[.slice A n c] w (NormT w ps) := by
  have HT := Lib.hid (V1_take_t h hP hs hn)
  have HPost := Lib.hid (fun e w' (h : NormTB w.heap.size w ps e w') => show NormT w ps e w' from h)
  unfold NormT
  clear h hP hs hn
  go_enter Try.func9, Try.ntmps9
  go_wp2_with fail
  (with_reducible refine HT.out.mono ?_)
  rintro e w1 ⟨hb1, hz1, hcs⟩
  rcases hcs with ⟨he, h1⟩ | ⟨he, h0, M, h1⟩ | ⟨he, h0, A1, n1, c1, qs, hv, hrow, hrest⟩
  · subst he
    have key : NormTB w.heap.size w ps (.returned (.tuple #[.slice none 0 0, .int .i64 10])) w1 := ⟨hb1, .inl ⟨rfl, h1⟩⟩
    clear hb1 h1
    go_wp2_with fail
    exact bodyPost_ret (v := .tuple #[.slice none 0 0, .int .i64 10]) (by simp [results, Try.results9, go_sem]) rfl key
  · subst he
    have key : NormTB w.heap.size w ps (.returned (.tuple #[.slice none 0 0, .int .i64 90])) w1 := ⟨hb1, .inr (.inl ⟨rfl, h0, M, h1⟩)⟩
    clear hb1 h1 h0
    go_wp2_with fail
    exact bodyPost_ret (v := .tuple #[.slice none 0 0, .int .i64 90]) (by simp [results, Try.results9, go_sem]) rfl key
  · subst he
    have key : NormTB w.heap.size w ps (.returned (.tuple #[.slice A1 n1 c1, .int .i64 0])) w1 := ⟨hb1, .inr (.inr ⟨A1, n1, c1, qs, rfl, h0, hrow, hrest⟩)⟩
    have x1 := hv.cell.1
    clear hb1 hrow hrest h0 hv
    go_wp2_with fail
    exact bodyPost_ret (v := .tuple #[.slice A1 n1 c1, .int .i64 0]) (by simp [results, Try.results9, go_sem]) rfl key
end Go.Proofs.Ytpikjceodmepiaa

