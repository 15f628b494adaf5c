import Derived.Test.YtggdmhkdmkldoaaSz
import Derived.Test.YtggdmhkdmkldoaaTa
import Derived.StillTailTactics
namespace Go.Proofs.Ytggdmhkdmkldoaa
open Go.RowKit Hb
set_option linter.unusedVariables false
set_option linter.unusedSimpArgs false

/-! ### divided: bit by bit from the high end -/
/-- append, and that no other block is touched -/
theorem wp_append_farI {o : Oper} {a : Act} {K : Act → World → Prop} {Q : Exit → Act → World → Prop} {w : World} (s x : Operand)
    (ho : o.op = .call { callee := .builtin .append, args := #[s, x], argTypes := #[26, 26] })
    {base B : Nat} {A A0 : Option Addr} {n0 c0 m c : Nat} {l0 l : List Nat} (hs : a.eval s = .slice A0 n0 c0) (hown : OwnI w base A0 n0 c0 (i64s l0)) (hx : a.eval x = .slice A m c) (hA : A = none → c = 0) (hrd : SlI w B A m c l)
    (hm : n0 + m ≤ 67108864) (hbase : base ≤ w.heap.size)
    (h : ∀ A' c' w', OwnI w' base A' (n0 + m) c' (i64s (l0 ++ l)) → Below base w w' → (∀ g, g < w.heap.size → A0 ≠ some ⟨g, 0, none⟩ → w'.heap[g]? = w.heap[g]?) → (∀ g, A' = some ⟨g, 0, none⟩ → A0 = some ⟨g, 0, none⟩ ∨ w.heap.size ≤ g) → K (a.put o.dst (.slice A' (n0 + m) c')) w') : o.wp Try.prog a w K Q := by
  obtain ⟨i0, hi, hz0, hz1, hz2⟩ := info_parts infoI
  cases A with
  | none =>
    have hm0 : m = 0 := by
      rcases Nat.eq_zero_or_pos m with h0 | h0
      · exact h0
      · obtain ⟨b, o, h1, _⟩ := hrd.at_ h0; cases h1
    have hc0 := hA rfl
    subst hm0; subst hc0
    have hl : l = [] := List.length_eq_zero_iff.1 hrd.len
    subst hl
    have hrun := run_append_owned_none (P := Try.prog) (w := w) base 26 o.type 3 i0 1 Try.underlying26 hi _ n0 (i64s l0) hown
    unfold Oper.wp
    simp [execOp, ho, resolve, invoke, builtin, hs, hx, hrun, Result.andThen]
    exact h A0 c0 w (by rw [List.append_nil]; exact hown) (Below.refl _ _) (fun _ _ _ => rfl) (fun _ e => .inl e)
  | some ad =>
    have hnews : ∀ j u, (i64s l)[j]? = some u → w.cell? (ad.add j) = some u := by
      intro j u hj
      have hj2 : j < m := by
        rw [← hrd.len, ← i64s_length l]
        exact (List.getElem?_eq_some_iff.1 hj).1
      obtain ⟨b, o', h1, _, hc⟩ := hrd.at_ (by omega)
      obtain rfl := Option.some.inj h1
      rw [addr_add, hc j hj2, ← i64s_get (by rw [hrd.len]; exact hj2), hj]
    obtain ⟨v', w', hr, hown', hg, _, hat⟩ := run_append_own_at (P := Try.prog) w base 26 o.type 3 i0 (.int .i64 0) 1 8 Try.underlying26 hi hz0 hz1 hz2 rfl (by decide) _ n0 (i64s l0) hown ad m c (i64s l) (by rw [i64s_length, hrd.len]; simp) hnews (i64s_one l) (by simp [maxLen]; omega) (by omega) hbase
    have hf : ∃ A' c', v' = .slice A' (n0 + m) c' := by
      rcases hown'.2 with ⟨h1, h2⟩ | ⟨g', cap, cur, h1, _⟩
      · exact ⟨none, 0, by rw [h1, h2]⟩
      · exact ⟨_, _, h1⟩
    obtain ⟨A', c', rfl⟩ := hf
    unfold Oper.wp execOp
    simp only [ho, resolve, invoke, builtin, Sem.run_bind, Sem.run_pure, Result.andThen_ok, List.map_toArray, List.map_cons, List.map_nil, hs, hx, hr]
    refine h A' c' w' (by have h3 := hown'; rw [i64s_append] at h3; exact h3) ⟨hg.os, hg.tape, hg.output, hg.size, fun j hj => hg.block j (by omega) ?_⟩ (fun j hj hne => hg.block j hj ?_) (fun g e => ?_)
    · rcases Own.form hown with ⟨rfl, _⟩ | ⟨g', rfl, h4, _⟩
      · simp [Value.ownBlock]
      · simp [Value.ownBlock]; omega
    · rcases Own.form hown with ⟨rfl, _⟩ | ⟨g', rfl, h4, _⟩
      · simp [Value.ownBlock]
      · simp [Value.ownBlock]
        rintro rfl
        exact hne rfl
    · subst e
      rcases Own.form hown with ⟨rfl, _⟩ | ⟨g', rfl, h4, _⟩
      · simp [Value.ownBlock] at hat
        exact .inr (by omega)
      · simp [Value.ownBlock] at hat
        rcases hat with rfl | h5
        · exact .inl rfl
        · exact .inr (by omega)

def DvAt (w0 : World) (B gq : Nat) (A : Option Addr) (n ca : Nat) (Q R : List Nat) (wr : World) : Prop :=
  OwnI wr B (some ⟨gq, 0, none⟩) n n (i64s Q) ∧ OwnI wr B A n ca (i64s R) ∧ (∀ g, A = some ⟨g, 0, none⟩ → g ≠ gq) ∧ Below B w0 wr
theorem DvAt.drewN {w0 wr : World} {B gq n ca : Nat} {A : Option Addr} {Q R : List Nat} (h : DvAt w0 B gq A n ca Q R wr) (k : Nat) : DvAt w0 B gq A n ca Q R (wr.drewN k) := ⟨h.1, h.2.1, h.2.2.1, belowN h.2.2.2 k⟩
theorem DvAt.dr {w0 wr w2 : World} {B gq n ca : Nat} {A : Option Addr} {Q R : List Nat} (h : DvAt w0 B gq A n ca Q R wr) (hd : Dr wr w2) : DvAt w0 B gq A n ca Q R w2 := by
  obtain ⟨k, rfl⟩ := hd; exact h.drewN k
theorem DvAt.setQ {w0 wr : World} {B gq n ca : Nat} {A : Option Addr} {Q R : List Nat} (h : DvAt w0 B gq A n ca Q R wr) (i : Nat) : DvAt w0 B gq A n ca (Q.set i 1) R (wr.setCell ⟨gq, i, none⟩ (.int .i64 1)) := by
  refine ⟨?_, Own.far h.2.1 (p := ⟨gq, i, none⟩) h.2.2.1 _, h.2.2.1, h.2.2.2.setCell (own_block h.1 rfl).1 _⟩
  have := h.1.set_ i (.int .i64 ((1 : Nat) : Int))
  rwa [i64s_set] at this
theorem DvAt.setR {w0 wr : World} {B gq n ca g : Nat} {Q R : List Nat} (h : DvAt w0 B gq (some ⟨g, 0, none⟩) n ca Q R wr) (i d : Nat) : DvAt w0 B gq (some ⟨g, 0, none⟩) n ca Q (R.set i d) (wr.setCell ⟨g, i, none⟩ (.int .i64 (d : Int))) := by
  refine ⟨Own.far h.1 (p := ⟨g, i, none⟩) (fun g' e => ?_) _, ?_, h.2.2.1, h.2.2.2.setCell (own_block h.2.1 rfl).1 _⟩
  · injection e with e; injection e with e1 _ _
    rw [← e1]; exact fun h9 => h.2.2.1 g rfl h9.symm
  · have := h.2.1.set_ i (.int .i64 (d : Int))
    rwa [i64s_set] at this
theorem DvAt.cellR {w0 wr : World} {B gq n ca g : Nat} {Q R : List Nat} (h : DvAt w0 B gq (some ⟨g, 0, none⟩) n ca Q R wr) {i : Nat} (hi : i < n) (hl : R.length = n) : wr.cell? ⟨g, i, none⟩ = some (.int .i64 (R.getD i 0 : Nat)) ∧ wr.frozen? ⟨g, i, none⟩ = false :=
  ⟨by rw [h.2.1.cell hi, i64s_get (by omega)], h.2.1.frozen i⟩
theorem DvAt.cellQ {w0 wr : World} {B gq n ca : Nat} {A : Option Addr} {Q R : List Nat} (h : DvAt w0 B gq A n ca Q R wr) {i : Nat} (hi : i < n) (hl : Q.length = n) : wr.cell? ⟨gq, i, none⟩ = some (.int .i64 (Q.getD i 0 : Nat)) ∧ wr.frozen? ⟨gq, i, none⟩ = false :=
  ⟨by rw [h.1.cell hi, i64s_get (by omega)], h.1.frozen i⟩
/-- the bits that are looked at, as a slice -/
theorem DvAt.part {w0 wr : World} {B gq n ca g : Nat} {Q R : List Nat} (h : DvAt w0 B gq (some ⟨g, 0, none⟩) n ca Q R wr) (hl : R.length = n) (hd : Dig 2 R) {i top : Nat} (hi : i < top) (ht : top ≤ n) :
    SlI wr wr.heap.size (some ⟨g, i, none⟩) (top - i) (ca - i) ((R.drop i).take (top - i)) := by
  have hc := h.2.1.cap
  refine ⟨by rw [List.length_take, List.length_drop]; omega, by omega, by omega, (hd.drop i).take _, fun hx => ⟨g, i, rfl, (own_block h.2.1 rfl).2, fun j v hj => ?_⟩⟩
  have hj2 : j < top - i := by
    have := (List.getElem?_eq_some_iff.1 hj).1
    rw [i64s_length, List.length_take, List.length_drop] at this
    omega
  rw [h.2.1.cell (show i + j < n by omega), i64s_get (by omega), ← hj, i64s_get (by rw [List.length_take, List.length_drop]; omega)]
  congr 3
  rw [List.getD_eq_getElem?_getD, List.getD_eq_getElem?_getD, List.getElem?_take_of_lt hj2, List.getElem?_drop]
def DvdPost (w : World) (vq vr : Nat) (e : Ending) (w' : World) : Prop :=
  ∃ A c A2 c2, e = .returned (.tuple #[.slice A (digs 2 vq).length c, .slice A2 (digs 2 vr).length c2]) ∧ OwnI w' w.heap.size A (digs 2 vq).length c (i64s (digs 2 vq)) ∧ OwnI w' w.heap.size A2 (digs 2 vr).length c2 (i64s (digs 2 vr)) ∧ (∀ g, A2 = some ⟨g, 0, none⟩ → A ≠ some ⟨g, 0, none⟩) ∧ Below w.heap.size w w'
theorem DvAt.fin {w wr : World} {n ca : Nat} {A : Option Addr} {l m Q R : List Nat} (h : DvAt w w.heap.size w.heap.size A n ca Q R wr) (H : DvInv l m n 0 Q R) :
    DvdPost w (nv 2 l / nv 2 m) (nv 2 l % nv 2 m) (.returned (.tuple #[.slice (some ⟨w.heap.size, 0, none⟩) (tlen Q) n, .slice A (tlen R) ca])) wr := by
  obtain ⟨e1, e2⟩ := H.end_
  rw [← e1, ← e2]
  have a1 := tr_eq_digs (b := 2) (by decide) H.dq
  have a2 := tr_eq_digs (b := 2) (by decide) H.dr
  have b1 : tlen Q ≤ n := by rw [← H.lq]; exact tlen_le Q
  have b2 : tlen R ≤ n := by rw [← H.lr]; exact tlen_le R
  have o1 := h.1.take b1
  have o2 := h.2.1.take b2
  rw [i64s_take] at o1 o2
  have c1 : (digs 2 (nv 2 Q)).length = tlen Q := by rw [← a1, tr_length]
  have c2 : (digs 2 (nv 2 R)).length = tlen R := by rw [← a2, tr_length]
  refine ⟨_, n, A, ca, by rw [c1, c2], ?_, ?_, fun g e => ?_, h.2.2.2⟩
  · rw [c1, ← a1]; exact o1
  · rw [c2, ← a2]; exact o2
  · have := h.2.2.1 g e
    intro e2
    injection e2 with e2; injection e2 with e3 _ _
    exact this e3.symm
set_option maxRecDepth 100000 in
set_option maxHeartbeats 4000000 in
theorem divided_any {B B' : Nat} {A A' : Option Addr} {l m : List Nat} {n c n' c' : Nat} {w : World} (hs : SlI w B A n c l) (hA : A = none → c = 0) (ht : SlI w B' A' n' c' m) (hn : n ≤ 67108864) (hn' : n' ≤ 67108864) (hB : B ≤ w.heap.size) (hB' : B' ≤ w.heap.size) (rm : Nrm m) (hm : 0 < nv 2 m) :
    Calls Try.prog 73 #[.slice A n c, .slice A' n' c'] w (DvdPost w (nv 2 l / nv 2 m) (nv 2 l % nv 2 m)) := by
  have hcp := hs.cap
  have hlm := hs.len
  have hlm' := ht.len
  have HT := Lib.hid (fun w1 (hb : Below w.heap.size w w1) => And.intro (ht.below (C := w.heap.size) hb hB') (Nat.le_trans hB' hb.size))
  have HS := Lib.hid (fun w1 (hb : Below w.heap.size w w1) => hs.below (C := w.heap.size) hb hB)
  have HA := Lib.hid hA
  have HM := Lib.hid (And.intro rm hlm')
  have HI0 := Lib.hid (DvInv.start hlm hs.dig hm)
  have HL := Lib.hid (show l.length = n from hlm)
  have hmk := makeI n (by omega)
  have hnI : (n : Int) ≤ 67108864 := by omega
  have hnI' : (n' : Int) ≤ 67108864 := by omega
  have OQ := Lib.hid (own_zerosI w (B := w.heap.size) n (Nat.le_refl _) (by simp [maxLen]; omega))
  have KQ := Lib.hid ((Below.refl w.heap.size w).alloc (Nat.le_refl _) (.cells (madeCells #[.int .i64 0] n) 3))
  clear hs ht hA hB hB' rm hm hlm hlm' hcp
  go_enter Try.func73, Try.ntmps73
  go_upto_region 2 with fail
  have hzq : w.heap.size < (w.alloc (.cells (madeCells #[.int .i64 0] n) 3)).heap.size := by simp
  generalize (w.alloc (.cells (madeCells #[.int .i64 0] n) 3)) = wq at *
  have oe : OwnI (wq.alloc (.cells #[] 3)) wq.heap.size (some ⟨wq.heap.size, 0, none⟩) 0 0 (i64s []) := Own.of_block (xs := []) (by exact heap_alloc_new wq _) (Nat.le_refl _) (by simp [maxLen])
  have HOE := Lib.hid oe
  have KE := Lib.hid ((Below.refl wq.heap.size wq).alloc (Nat.le_refl _) (.cells #[] 3))
  have hle2 : wq.heap.size ≤ (wq.alloc (.cells #[] 3)).heap.size := by simp
  clear oe
  go_wp2_with (at_builtin; ((refine wpList_plain (by rfl) fun K hK => ?_); (refine wp_append_farI (base := wq.heap.size) (l0 := []) (l := l) (A := A) (A0 := some ⟨wq.heap.size, 0, none⟩) (n0 := 0) (c0 := 0) (m := n) (c := c) _ _ (by rfl) (by rfl) HOE.out (by rfl) HA.out (HS.out _ (KQ.out.trans (KE.out.mono KQ.out.size))) (Nat.le_trans (Nat.le_of_eq (Nat.zero_add _)) (Nat.le_trans hn (by decide))) hle2 ?_); intro A3 c3 w3 ho3 hb3 _ _; (refine hK _ _ ?_)))
  have HD0 := Lib.hid (show DvAt w w.heap.size w.heap.size A3 n c3 (List.replicate n 0) l w3 from
    ⟨OQ.out.below (KE.out.trans hb3) (Nat.le_refl _), by have := Own.mono ho3 (Nat.le_of_lt hzq); rwa [Nat.zero_add, List.nil_append] at this, fun g e => by have := (own_block ho3 e).1; omega, KQ.out.trans ((KE.out.trans hb3).mono (Nat.le_of_lt hzq))⟩)
  have hn0 : 0 < n' := by
    rw [← HM.out.2]
    refine List.length_pos_iff.2 fun e => ?_
    have := HI0.out.hlt
    rw [List.drop_eq_nil_of_le (by rw [HL.out]; exact Nat.le_refl _), e] at this
    simp at this
  have HMd := Lib.hid (show Dig 2 m from (HT.out w (Below.refl _ _)).1.dig)
  clear ho3 hb3 OQ KQ HOE KE hmk hle2 HS HA
  go_loopw [8, 9] (fun tv iv wr => ∃ (s tp : Nat) (Q R : List Nat), s ≤ tp ∧ tp ≤ n ∧ iv = .int .i64 ((s : Int) - 1) ∧ tv = .int .i64 (tp : Int) ∧ Hid (DvInv l m n s Q R) ∧ Hid (∀ j, tp ≤ j → R.getD j 0 = 0) ∧ DvAt w w.heap.size w.heap.size A3 n c3 Q R wr) (fun _ iv _ => (intOf iv + 1).toNat)
  case atStart => exact ⟨n, n, _, l, Nat.le_refl _, Nat.le_refl _, by first | rfl | simp, by first | rfl | simp, HI0, Lib.hid (fun j hj => getD_past (by rw [HL.out]; exact hj)), HD0.out⟩
  case round =>
    obtain ⟨s, tp, Q, R, hst, htp, rfl, rfl, HI, HZ, hat⟩ := hrel
    have HAt := Lib.hid hat
    clear hat HD0 HI0
    by_cases hs0 : s = 0
    · subst hs0
      have HF := Lib.hid (HAt.out.fin HI.out)
      have HQs := Lib.hid (HAt.out.1.sl HI.out.dq HI.out.lq)
      have HRs := Lib.hid (HAt.out.2.1.sl HI.out.dr HI.out.lr)
      go_wp2_with fail
      (with_reducible refine (rcut_any HQs.out).mono ?_)
      rintro ex w5 ⟨rfl, rfl⟩
      go_wp2_with fail
      (with_reducible refine (rcut_any HRs.out).mono ?_)
      rintro ex w5 ⟨rfl, rfl⟩
      go_wp2
      exact bodyPost_ret (v := .tuple #[.slice (some ⟨w.heap.size, 0, none⟩) (tlen Q) n, .slice A3 (tlen R) c3]) (by simp [results, Try.results73, go_sem]) rfl HF.out
    · obtain ⟨i, rfl⟩ : ∃ i, s = i + 1 := ⟨s - 1, by omega⟩
      have his : ((i + 1 : Nat) : Int) - 1 = (i : Int) := by omega
      rw [his]
      have hin : i < n := by omega
      have hiI : (i : Int) < (n : Int) := by omega
      have hi0 : (0 : Int) ≤ (i : Int) := by omega
      obtain ⟨ga, hga, hga1, hga2⟩ := HAt.out.2.1.at_ (by omega)
      subst hga
      have HLR := Lib.hid HI.out.lr
      go_wp2_with fail
      go_loop [8] (fun tv => ∃ t2 : Nat, i ≤ t2 ∧ t2 ≤ n ∧ tv = .int .i64 (t2 : Int) ∧ Hid (∀ j, t2 ≤ j → R.getD j 0 = 0)) (fun tv => (intOf tv).toNat)
      case atStart => exact ⟨tp, by omega, htp, rfl, HZ⟩
      case round =>
        obtain ⟨t2, hit, htn, rfl, HZ2⟩ := hrel
        clear HZ hst htp
        by_cases hgt : i < t2
        · obtain ⟨hc1, hc2⟩ := HAt.out.cellR (i := t2 - 1) (by omega) HLR.out
          have hgtI : (i : Int) < (t2 : Int) := by omega
          have hks : (t2 : Int) - 1 = ((t2 - 1 : Nat) : Int) := by omega
          have hkn : ((t2 - 1 : Nat) : Int) < (n : Int) := by omega
          have hxb := HI.out.dr.getD (b := 2) (by decide) (t2 - 1)
          by_cases hz : R.getD (t2 - 1) 0 = 0
          · have HZ3 := Lib.hid (show ∀ j, t2 - 1 ≤ j → R.getD j 0 = 0 from fun j hj => by
              by_cases e : j = t2 - 1
              · rw [e]; exact hz
              · exact HZ2.out j (by omega))
            rw [hz] at hc1
            have hc3 : wr.cell? ⟨ga, t2 - 1, none⟩ = some (.int .i64 0) := hc1
            clear hc1 hc2 hz
            go_wp2
            go_round
            case rel => exact ⟨t2 - 1, by omega, by omega, rfl, HZ3⟩
            case measure => simp [intOf]; omega
          · have HP := Lib.hid (part_nrm (R := R) (i := i) (top := t2) hit (by rw [HLR.out]; exact htn) (.inr hz))
            have HPv := Lib.hid (part_nv (R := R) (i := i) (top := t2) hit (by rw [HLR.out]; exact htn) HZ2.out)
            have hz1 : R.getD (t2 - 1) 0 = 1 := by omega
            rw [hz1] at hc1
            have hc3 : wr.cell? ⟨ga, t2 - 1, none⟩ = some (.int .i64 1) := hc1
            have HPS := Lib.hid (HAt.out.part HLR.out HI.out.dr hgt htn)
            have HPl := Lib.hid (show ((R.drop i).take (t2 - i)).length = t2 - i by rw [List.length_take, List.length_drop, HLR.out]; omega)
            have hT : (t2 : Int) - (i : Int) = ((t2 - i : Nat) : Int) := by omega
            clear hc1 hc2 hz hz1
            by_cases hlt : t2 - i < n'
            · have hltI : ((t2 - i : Nat) : Int) < (n' : Int) := by omega
              have HE := Lib.hid (HI.out.less (by rw [HPv.out]; exact nv_lt_of_len (b := 2) (by decide) ((HI.out.dr.drop i).take _) HM.out.1 (by rw [HPl.out, HM.out.2]; exact hlt)))
              generalize ht : t2 - i = T at *
              go_wp2_with fail
              go_roundw
              case rel => exact ⟨i, t2, Q, R, hit, htn, by go_num, rfl, HE, HZ2, HAt.out⟩
              case measure => simp [intOf]
            · have hmT : n' ≤ t2 - i := by omega
              have hltI : ¬ ((t2 - i : Nat) : Int) < (n' : Int) := by omega
              by_cases heq : t2 - i = n'
              · have heqI : ((t2 - i : Nat) : Int) = (n' : Int) := by omega
                rw [heq] at HPS HPv hT
                have HLs := Lib.hid (fun b (hb : decide (nv 2 ((R.drop i).take n') < nv 2 m) = b) => rless_any (HPS.out) (HT.out _ HAt.out.2.2.2).1 (fun h => absurd rfl h) (lt := b) hb)
                have hsl1 : (i : Int) ≤ (t2 : Int) := by omega
                obtain ⟨hcapA, hcapB⟩ := HAt.out.2.1.cap
                have hsl2 : (t2 : Int) ≤ (c3 : Int) := by omega
                have hsl3 : ¬ c3 = i := by omega
                by_cases hv : nv 2 (R.drop i) < nv 2 m
                · have HE := Lib.hid (HI.out.less hv)
                  have HL2 := Lib.hid (HLs.out true (by rw [← HPv.out]; exact decide_eq_true hv))
                  clear heqI hltI
                  go_wp2_with fail
                  (refine HL2.out.mono ?_)
                  rintro ex w5 ⟨rfl, hdr⟩
                  have HAd := Lib.hid (HAt.out.dr hdr)
                  clear hdr
                  go_wp2_with fail
                  go_roundw
                  case rel => exact ⟨i, t2, Q, R, hit, htn, by go_num, rfl, HE, HZ2, HAd.out⟩
                  case measure => simp [intOf]
                · have hge := Lib.hid (show nv 2 m ≤ nv 2 (R.drop i) by omega)
                  have HL2 := Lib.hid (HLs.out false (by rw [← HPv.out]; exact decide_eq_false hv))
                  clear heqI hltI
                  go_wp2_with fail
                  (refine HL2.out.mono ?_)
                  rintro ex w5 ⟨rfl, hdr⟩
                  have HAd := Lib.hid (HAt.out.dr hdr)
                  clear hdr HLs HPS HL2
                  obtain ⟨hq1, hq2⟩ := HAd.out.cellQ (i := i) (by omega) HI.out.lq
                  have HQ := Lib.hid (HAd.out.setQ i)
                  generalize Q.getD i 0 = q0 at *
                  go_wp2_with fail
                  go_loopw [11, 12] (fun cv kv wr => ∃ (k cy : Nat) (R2 : List Nat), i ≤ k ∧ k ≤ t2 ∧ kv = .int .i64 (k : Int) ∧ cv = .int .i64 (cy : Int) ∧ Hid (DsInv l m n i t2 Q R R2 (k - i) cy) ∧ DvAt w w.heap.size w.heap.size (some ⟨ga, 0, none⟩) n c3 (Q.set i 1) R2 wr) (fun _ kv _ => t2 - (intOf kv).toNat)
                  case atStart => exact ⟨i, 0, R, Nat.le_refl _, by omega, rfl, rfl, Lib.hid (by rw [Nat.sub_self]; exact DsInv.start HI.out.lr HI.out.dr), HQ.out⟩
                  case round =>
                    obtain ⟨k, cy, R2, hik, hkt, rfl, rfl, HD, hat⟩ := hrel
                    have HA2 := Lib.hid hat
                    have hk0 : (0 : Int) ≤ (k : Int) := by omega
                    clear hat HQ hq1 hq2
                    by_cases hk : k < t2
                    · have hkI : (k : Int) < (t2 : Int) := by omega
                      obtain ⟨j, hj⟩ : ∃ j, k - i = j := ⟨_, rfl⟩
                      have hkj : i + j = k := by omega
                      rw [hj] at HD
                      obtain ⟨hx, hxf⟩ := HA2.out.cellR (i := k) (by omega) HD.out.l2
                      have HBit := Lib.hid (fun q => by
                        have hB2 := (HA2.out.drewN q).2.2.2
                        have h := rbit_any (HT.out _ hB2).1 (j : Int)
                        rw [bitZ_nat] at h
                        exact h)
                      have hx2 := HD.out.d2.getD (b := 2) (by decide) k
                      have hy2 := HMd.out.getD (b := 2) (by decide) j
                      have hc2 := HD.out.hc
                      have HSt := Lib.hid (fun d c' (hd : d < 2) (hc' : c' ≤ 1) (he : d + m.getD j 0 + cy = R2.getD (i + j) 0 + 2 * c') => HD.out.step (by omega) hd hc' he)
                      rw [hkj] at HSt
                      have hj1 : k + 1 - i = j + 1 := by omega
                      generalize m.getD j 0 = y at *
                      generalize R2.getD k 0 = x at *
                      have hkn : (k : Int) < (n : Int) := by omega
                      have hw1 : IntKind.i64.wrap ((k : Int) - (i : Int)) = (j : Int) := by rw [IntWalk.i64_in _ (by omega)]; omega
                      obtain ⟨u, hu⟩ : ∃ u : Int, (x : Int) - (y : Int) = u := ⟨_, rfl⟩
                      have hw2 : IntKind.i64.wrap ((x : Int) - (y : Int)) = u := by rw [IntWalk.i64_in _ (by omega)]; exact hu
                      obtain ⟨t, htt⟩ : ∃ t : Int, u - (cy : Int) = t := ⟨_, rfl⟩
                      have hw3 : IntKind.i64.wrap (u - (cy : Int)) = t := by rw [IntWalk.i64_in _ (by omega)]; exact htt
                      have HTT := Lib.hid (And.intro hu htt)
                      clear hj hkj hu htt
                      by_cases hneg : t < 0
                      · obtain ⟨d, hd⟩ : ∃ d : Nat, t + 2 = (d : Int) := ⟨(t + 2).toNat, by have := HTT.out; omega⟩
                        have HS2 := Lib.hid (HSt.out d 1 (by have := HTT.out; omega) (by omega) (by have := HTT.out; omega))
                        go_wp2_with fail
                        go_quiet ((go_at_call 77; (with_reducible exact quiet_left (HBit.out _))))
                        have HA3 := Lib.hid ((HA2.out.drewN nq).setR k d)
                        have hxf2 : (wr.drewN nq).frozen? ⟨ga, k, none⟩ = false := hxf
                        have hx3 : (wr.drewN nq).cell? ⟨ga, k, none⟩ = some (.int .i64 (x : Int)) := hx
                        clear HBit hw1 hw2 hw3 HSt
                        generalize wr.drewN nq = w6 at *
                        go_wp2_with fail
                        go_roundw
                        case rel => exact ⟨k + 1, 1, R2.set k d, by omega, by omega, by go_num, rfl, Lib.hid (by rw [hj1]; exact HS2.out), HA3.out⟩
                        case measure => simp [intOf]; omega
                      · obtain ⟨d, hd⟩ : ∃ d : Nat, t = (d : Int) := ⟨t.toNat, by omega⟩
                        have HS2 := Lib.hid (HSt.out d 0 (by have := HTT.out; omega) (by omega) (by have := HTT.out; omega))
                        subst hd
                        go_wp2_with fail
                        go_quiet ((go_at_call 77; (with_reducible exact quiet_left (HBit.out _))))
                        have HA3 := Lib.hid ((HA2.out.drewN nq).setR k d)
                        have hxf2 : (wr.drewN nq).frozen? ⟨ga, k, none⟩ = false := hxf
                        have hx3 : (wr.drewN nq).cell? ⟨ga, k, none⟩ = some (.int .i64 (x : Int)) := hx
                        clear HBit hw1 hw2 hw3 HSt
                        generalize wr.drewN nq = w6 at *
                        go_wp2_with fail
                        go_roundw
                        case rel => exact ⟨k + 1, 0, R2.set k d, by omega, by omega, by go_num, rfl, Lib.hid (by rw [hj1]; exact HS2.out), HA3.out⟩
                        case measure => simp [intOf]; omega
                    · obtain rfl : k = t2 := by omega
                      have HE := Lib.hid (HD.out.done HI.out (by omega) htn HZ2.out (by rw [HM.out.2]; exact hmT) hge.out)
                      clear HD
                      go_wp2_with fail
                      go_roundw
                      case rel => exact ⟨i, k, Q.set i 1, R2, by omega, htn, by go_num, rfl, Lib.hid HE.out.1, Lib.hid HE.out.2, HA2.out⟩
                      case measure => simp [intOf]
              · have hge := Lib.hid (show nv 2 m ≤ nv 2 (R.drop i) by
                  rw [HPv.out]
                  exact Nat.le_of_lt (nv_lt_of_len (b := 2) (by decide) HMd.out HP.out (by rw [HPl.out, HM.out.2]; omega)))
                have heqI : ¬ ((t2 - i : Nat) : Int) = (n' : Int) := by omega
                clear HPS
                obtain ⟨hq1, hq2⟩ := HAt.out.cellQ (i := i) (by omega) HI.out.lq
                have HQ := Lib.hid (HAt.out.setQ i)
                generalize Q.getD i 0 = q0 at *
                go_wp2_with fail
                go_loopw [11, 12] (fun cv kv wr => ∃ (k cy : Nat) (R2 : List Nat), i ≤ k ∧ k ≤ t2 ∧ kv = .int .i64 (k : Int) ∧ cv = .int .i64 (cy : Int) ∧ Hid (DsInv l m n i t2 Q R R2 (k - i) cy) ∧ DvAt w w.heap.size w.heap.size (some ⟨ga, 0, none⟩) n c3 (Q.set i 1) R2 wr) (fun _ kv _ => t2 - (intOf kv).toNat)
                case atStart => exact ⟨i, 0, R, Nat.le_refl _, by omega, rfl, rfl, Lib.hid (by rw [Nat.sub_self]; exact DsInv.start HI.out.lr HI.out.dr), HQ.out⟩
                case round =>
                  obtain ⟨k, cy, R2, hik, hkt, rfl, rfl, HD, hat⟩ := hrel
                  have HA2 := Lib.hid hat
                  have hk0 : (0 : Int) ≤ (k : Int) := by omega
                  clear hat HQ hq1 hq2
                  by_cases hk : k < t2
                  · have hkI : (k : Int) < (t2 : Int) := by omega
                    obtain ⟨j, hj⟩ : ∃ j, k - i = j := ⟨_, rfl⟩
                    have hkj : i + j = k := by omega
                    rw [hj] at HD
                    obtain ⟨hx, hxf⟩ := HA2.out.cellR (i := k) (by omega) HD.out.l2
                    have HBit := Lib.hid (fun q => by
                      have hB2 := (HA2.out.drewN q).2.2.2
                      have h := rbit_any (HT.out _ hB2).1 (j : Int)
                      rw [bitZ_nat] at h
                      exact h)
                    have hx2 := HD.out.d2.getD (b := 2) (by decide) k
                    have hy2 := HMd.out.getD (b := 2) (by decide) j
                    have hc2 := HD.out.hc
                    have HSt := Lib.hid (fun d c' (hd : d < 2) (hc' : c' ≤ 1) (he : d + m.getD j 0 + cy = R2.getD (i + j) 0 + 2 * c') => HD.out.step (by omega) hd hc' he)
                    rw [hkj] at HSt
                    have hj1 : k + 1 - i = j + 1 := by omega
                    generalize m.getD j 0 = y at *
                    generalize R2.getD k 0 = x at *
                    have hkn : (k : Int) < (n : Int) := by omega
                    have hw1 : IntKind.i64.wrap ((k : Int) - (i : Int)) = (j : Int) := by rw [IntWalk.i64_in _ (by omega)]; omega
                    obtain ⟨u, hu⟩ : ∃ u : Int, (x : Int) - (y : Int) = u := ⟨_, rfl⟩
                    have hw2 : IntKind.i64.wrap ((x : Int) - (y : Int)) = u := by rw [IntWalk.i64_in _ (by omega)]; exact hu
                    obtain ⟨t, htt⟩ : ∃ t : Int, u - (cy : Int) = t := ⟨_, rfl⟩
                    have hw3 : IntKind.i64.wrap (u - (cy : Int)) = t := by rw [IntWalk.i64_in _ (by omega)]; exact htt
                    have HTT := Lib.hid (And.intro hu htt)
                    clear hj hkj hu htt
                    by_cases hneg : t < 0
                    · obtain ⟨d, hd⟩ : ∃ d : Nat, t + 2 = (d : Int) := ⟨(t + 2).toNat, by have := HTT.out; omega⟩
                      have HS2 := Lib.hid (HSt.out d 1 (by have := HTT.out; omega) (by omega) (by have := HTT.out; omega))
                      go_wp2_with fail
                      go_quiet ((go_at_call 77; (with_reducible exact quiet_left (HBit.out _))))
                      have HA3 := Lib.hid ((HA2.out.drewN nq).setR k d)
                      have hxf2 : (wr.drewN nq).frozen? ⟨ga, k, none⟩ = false := hxf
                      have hx3 : (wr.drewN nq).cell? ⟨ga, k, none⟩ = some (.int .i64 (x : Int)) := hx
                      clear HBit hw1 hw2 hw3 HSt
                      generalize wr.drewN nq = w6 at *
                      go_wp2_with fail
                      go_roundw
                      case rel => exact ⟨k + 1, 1, R2.set k d, by omega, by omega, by go_num, rfl, Lib.hid (by rw [hj1]; exact HS2.out), HA3.out⟩
                      case measure => simp [intOf]; omega
                    · obtain ⟨d, hd⟩ : ∃ d : Nat, t = (d : Int) := ⟨t.toNat, by omega⟩
                      have HS2 := Lib.hid (HSt.out d 0 (by have := HTT.out; omega) (by omega) (by have := HTT.out; omega))
                      subst hd
                      go_wp2_with fail
                      go_quiet ((go_at_call 77; (with_reducible exact quiet_left (HBit.out _))))
                      have HA3 := Lib.hid ((HA2.out.drewN nq).setR k d)
                      have hxf2 : (wr.drewN nq).frozen? ⟨ga, k, none⟩ = false := hxf
                      have hx3 : (wr.drewN nq).cell? ⟨ga, k, none⟩ = some (.int .i64 (x : Int)) := hx
                      clear HBit hw1 hw2 hw3 HSt
                      generalize wr.drewN nq = w6 at *
                      go_wp2_with fail
                      go_roundw
                      case rel => exact ⟨k + 1, 0, R2.set k d, by omega, by omega, by go_num, rfl, Lib.hid (by rw [hj1]; exact HS2.out), HA3.out⟩
                      case measure => simp [intOf]; omega
                  · obtain rfl : k = t2 := by omega
                    have HE := Lib.hid (HD.out.done HI.out (by omega) htn HZ2.out (by rw [HM.out.2]; exact hmT) hge.out)
                    clear HD
                    go_wp2_with fail
                    go_roundw
                    case rel => exact ⟨i, k, Q.set i 1, R2, by omega, htn, by go_num, rfl, Lib.hid HE.out.1, Lib.hid HE.out.2, HA2.out⟩
                    case measure => simp [intOf]
        · obtain rfl : t2 = i := by omega
          have HE := Lib.hid (HI.out.less (by
            rw [part_nv (R := R) (i := t2) (top := t2) (Nat.le_refl _) (by rw [HLR.out]; exact htn) HZ2.out, Nat.sub_self, List.take_zero]
            have := HI.out.hlt
            show 0 < _
            omega))
          have hn0I : (0 : Int) < (n' : Int) := by omega
          go_wp2_with fail
          go_roundw
          case rel => exact ⟨t2, t2, Q, R, Nat.le_refl _, htn, by go_num, rfl, HE, HZ2, HAt.out⟩
          case measure => simp [intOf]
end Go.Proofs.Ytggdmhkdmkldoaa
