import Derived.Test.YtfdcponamkfcaaaDoorOp
import Derived.Laws.AppendOwnNone
namespace Go.Proofs.YtfdcponamkfcaaaDoor
open Go.RowKit Ho Go.Maps Hb
set_option linter.unusedVariables false
set_option linter.unusedSimpArgs false

def strsL (l : List (List UInt8)) : List Value := l.map fun x => Value.string ⟨x.toArray⟩
theorem infoS : (Tryd.prog.info? 9).map (fun i => (i.zero, i.size, i.bytes)) = some (some (.string ByteArray.empty), 1, 16) := by kernel_rfl
theorem wpList_append_str {ops : Array Oper} {rest : List Oper} {o : Oper} {a : Act} {Q : Exit → Act → World → Prop} {w : World} (hgd : o.guard = none) (s x : Operand)
    (ho : o.op = .call { callee := .builtin .append, args := #[s, x], argTypes := #[59, 59] })
    (base : Nat) (A : Option Addr) (n cp : Nat) (l : List (List UInt8)) (hs : a.eval s = .slice A n cp) (hown : Own 9 w base A n cp (strsL l))
    (g : Nat) (y : ByteArray) (hx : a.eval x = .slice (some ⟨g, 0, none⟩) 1 1) (hc : w.cell? ⟨g, 0, none⟩ = some (.string y)) (hn : n ≤ 4294967296) (hbase : base ≤ w.heap.size)
    (h : ∀ A' c' w', Own 9 w' base A' (n + 1) c' (strsL (l ++ [y.data.toList])) → Below base w w' → wpList Tryd.prog ops Q rest (a.put o.dst (.slice A' (n + 1) c')) w') : wpList Tryd.prog ops Q (o :: rest) a w := by
  obtain ⟨i0, hi, hz0, hz1, hz2⟩ := info_parts infoS
  refine wpList_append_own _ hgd s x 59 ho base 9 i0 (.string ByteArray.empty) 1 16 Tryd.underlying59 hi hz0 hz1 hz2 rfl (by decide) _ n (strsL l) hs hown ⟨g, 0, none⟩ 1 1 [.string y] hx rfl ?_ ?_ (by unfold maxLen; omega) (by omega) hbase ?_
  · intro j u hj
    cases j with
    | zero => simp at hj; subst hj; exact hc
    | succ j => simp at hj
  · intro u hu; simp at hu; subst hu; rfl
  · intro v' w' hown' hg _
    have hf : ∃ A' c', v' = .slice A' (n + 1) c' := by
      rcases hown'.2 with ⟨h1, h2⟩ | ⟨g', cap, cur, h1, _⟩
      · exact absurd h2 (by simp)
      · exact ⟨_, _, h1⟩
    obtain ⟨A', c', rfl⟩ := hf
    refine h A' c' w' (by have h3 := hown'; rw [show strsL l ++ [Value.string y] = strsL (l ++ [y.data.toList]) by simp [strsL]] at h3; exact h3) ⟨hg.os, hg.tape, hg.output, hg.size, fun j hj => hg.block j (by omega) ?_⟩
    rcases Own.form hown with ⟨rfl, _⟩ | ⟨g', rfl, h4, _⟩
    · simp [Value.ownBlock]
    · simp [Value.ownBlock]; omega
def RwRel (W0 : World) (l : List UInt8) (i : Nat) (bv fv : Value) (wr : World) : Prop :=
  ∃ A n c, bv = .slice A n c ∧ fv = .int .i64 ((wl l i).2 : Int) ∧ Own 9 wr W0.heap.size A n c (strsL (wl l i).1) ∧ (wl l i).1.length = n ∧ Below W0.heap.size W0 wr
theorem RwRel.stay {W0 wr : World} {l : List UInt8} {i : Nat} {bv fv : Value} (h : RwRel W0 l i bv fv wr) (hc : ¬ (i = l.length ∨ l.getD i 0 = 32)) : RwRel W0 l (i + 1) bv fv wr := by
  have e : wl l (i + 1) = wl l i := by rw [wl, if_neg hc]
  unfold RwRel
  rw [e]
  exact h
theorem ext_list (s : ByteArray) (f i : Nat) : (s.extract f i).data.toList = (s.data.toList.drop f).take (i - f) := by
  rw [ByteArray.data_extract, Array.toList_extract, List.extract_eq_take_drop]
theorem RwRel.word {W0 wr w2 : World} {l : List UInt8} {i f n c' : Nat} {A' : Option Addr} {y : List UInt8} (hc : i = l.length ∨ l.getD i 0 = 32) (hf : (wl l i).2 = f) (hfi : f < i) (hn : (wl l i).1.length = n) (hy : y = (l.drop f).take (i - f)) (ho : Own 9 w2 W0.heap.size A' (n + 1) c' (strsL ((wl l i).1 ++ [y]))) (hb : Below W0.heap.size W0 w2) :
    RwRel W0 l (i + 1) (.slice A' (n + 1) c') (.int .i64 ((i : Int) + 1)) w2 := by
  have e : wl l (i + 1) = ((wl l i).1 ++ [y], i + 1) := by rw [wl, if_pos hc, hf, if_pos hfi, hy]
  refine ⟨A', n + 1, c', rfl, by rw [e]; rfl, by rw [e]; exact ho, by rw [e, List.length_append, hn]; rfl, hb⟩
theorem RwRel.gap {W0 wr : World} {l : List UInt8} {i f n c : Nat} {A : Option Addr} (hc : i = l.length ∨ l.getD i 0 = 32) (hf : (wl l i).2 = f) (hfi : ¬ f < i) (hn : (wl l i).1.length = n) (ho : Own 9 wr W0.heap.size A n c (strsL (wl l i).1)) (hb : Below W0.heap.size W0 wr) :
    RwRel W0 l (i + 1) (.slice A n c) (.int .i64 ((i : Int) + 1)) wr := by
  have e : wl l (i + 1) = ((wl l i).1, i + 1) := by rw [wl, if_pos hc, hf, if_neg hfi]
  exact ⟨A, n, c, rfl, by rw [e]; rfl, by rw [e]; exact ho, by rw [e]; exact hn, hb⟩
set_option maxRecDepth 100000 in
set_option maxHeartbeats 4000000 in
theorem rwords_any (s : ByteArray) (w : World) (hs : s.size ≤ 1000000) :
    Calls Tryd.prog 33 #[.string s] w fun e w' => ∃ A c, e = .returned (.slice A (rwords s.data.toList).length c) ∧ Own 9 w' w.heap.size A (rwords s.data.toList).length c (strsL (rwords s.data.toList)) ∧ Below w.heap.size w w' := by
  obtain ⟨l, hl⟩ : ∃ l, s.data.toList = l := ⟨_, rfl⟩
  obtain ⟨N, hN⟩ : ∃ N, s.size = N := ⟨_, rfl⟩
  have hlN : l.length = N := by rw [← hl, ← hN]; simp
  have HL := Lib.hid (And.intro hl (And.intro hN hlN))
  have HR0 := Lib.hid (show RwRel w l 0 (.slice none 0 0) (.int .i64 0) w from ⟨none, 0, 0, rfl, rfl, ⟨rfl, .inl ⟨rfl, rfl⟩⟩, rfl, Below.refl _ _⟩)
  rw [hl]
  have hNI : (N : Int) ≤ 1000000 := by omega
  have hsz := hN
  clear hl hlN hs
  go_enter Tryd.func33, Tryd.ntmps33
  go_wp2
  go_loopw [3, 4, 5] (fun bv fv iv wr => ∃ i : Nat, i ≤ N + 1 ∧ iv = .int .i64 (i : Int) ∧ RwRel w l i bv fv wr) (fun _ _ iv _ => N + 1 - (intOf iv).toNat)
  case atStart => exact ⟨0, by omega, rfl, HR0.out⟩
  case round =>
    obtain ⟨i, hi, rfl, hr⟩ := hrel
    have HR := Lib.hid hr
    clear hr HR0
    have hi0 : (0 : Int) ≤ (i : Int) := by omega
    obtain ⟨A, n, c, rfl, rfl, hown, hln, hb⟩ := HR.out
    obtain ⟨f, hf⟩ : ∃ f, (wl l i).2 = f := ⟨_, rfl⟩
    have hfi : f ≤ i := by rw [← hf]; exact wl_le l i
    have hni : n ≤ i := by rw [← hln]; exact wl_len l i
    have hf2 := Lib.hid hf
    rw [hf] at HR ⊢
    have HO := Lib.hid hown
    have HB := Lib.hid hb
    have HF := Lib.hid (And.intro hf hln)
    have hf0 : (0 : Int) ≤ (f : Int) := by omega
    have hfI : (f : Int) ≤ (i : Int) := by omega
    clear hown hb hf hln
    by_cases hin : i ≤ N
    · have hinI : (i : Int) ≤ (N : Int) := by omega
      have di : decide ((i : Int) ≤ (N : Int)) = true := decide_eq_true hinI
      by_cases hiN : i = N
      · have dn : ((i : Int) == (N : Int)) = true := beq_iff_eq.2 (by omega)
        have HC := Lib.hid (show i = l.length ∨ l.getD i 0 = 32 from .inl (by rw [HL.out.2.2]; exact hiN))
        clear hiN
        by_cases hfl : f < i
        · have dfl : decide (f < i) = true := decide_eq_true hfl
          have dfI : decide ((f : Int) < (i : Int)) = true := decide_eq_true (by omega)
          have HW := Lib.hid hfl
          have hfs : i ≤ s.size := by omega
          clear hfl
          go_wp2_with (at_builtin; refine wpList_append_str rfl _ _ rfl w.heap.size A n c (wl l i).1 rfl (Own.alloc HO.out _) wr.heap.size (s.extract f i) rfl (by simp [go_sem]) (by omega) (by have := HB.out.size; simp; omega) ?_; intro A3 c3 w3 ho3 hb3)
          have HX := Lib.hid (RwRel.word (wr := wr) (w2 := w3) HC.out HF.out.1 HW.out HF.out.2 (by rw [ext_list, HL.out.1]) ho3 ((HB.out.alloc HB.out.size _).trans hb3))
          clear ho3 hb3
          go_wp2
          go_roundw
          case rel => exact ⟨i + 1, by omega, by go_num, HX.out⟩
          case measure => simp [intOf]; omega
        · have dfl : decide (f < i) = false := decide_eq_false hfl
          have dfI : decide ((f : Int) < (i : Int)) = false := decide_eq_false (by omega)
          have HX := Lib.hid (RwRel.gap (wr := wr) HC.out HF.out.1 hfl HF.out.2 HO.out HB.out)
          clear hfl
          go_wp2
          go_roundw
          case rel => exact ⟨i + 1, by omega, by go_num, HX.out⟩
          case measure => simp [intOf]; omega
      · have hlt : i < N := by omega
        have hltI : (i : Int) < (N : Int) := by omega
        have dn : ((i : Int) == (N : Int)) = false := beq_eq_false_iff_ne.2 (by omega)
        have hls : i < s.size := by omega
        have hg : l.getD i 0 = s[i]'hls := by
          rw [← HL.out.1, List.getD_eq_getElem?_getD, List.getElem?_eq_getElem (by simpa using hls)]
          rfl
        by_cases h32 : l.getD i 0 = 32
        · have t32 : (((s[i]'hls).toNat : Int) == 32) = true := by rw [← hg, h32]; rfl
          have HC := Lib.hid (show i = l.length ∨ l.getD i 0 = 32 from .inr h32)
          clear h32 hg hiN
          by_cases hfl : f < i
          · have dfl : decide (f < i) = true := decide_eq_true hfl
            have dfI : decide ((f : Int) < (i : Int)) = true := decide_eq_true (by omega)
            have HW := Lib.hid hfl
            have hfs : i ≤ s.size := by omega
            clear hfl
            go_wp2_with (at_builtin; refine wpList_append_str rfl _ _ rfl w.heap.size A n c (wl l i).1 rfl (Own.alloc HO.out _) wr.heap.size (s.extract f i) rfl (by simp [go_sem]) (by omega) (by have := HB.out.size; simp; omega) ?_; intro A3 c3 w3 ho3 hb3)
            have HX := Lib.hid (RwRel.word (wr := wr) (w2 := w3) HC.out HF.out.1 HW.out HF.out.2 (by rw [ext_list, HL.out.1]) ho3 ((HB.out.alloc HB.out.size _).trans hb3))
            clear ho3 hb3
            go_wp2
            go_roundw
            case rel => exact ⟨i + 1, by omega, by go_num, HX.out⟩
            case measure => simp [intOf]; omega
          · have dfl : decide (f < i) = false := decide_eq_false hfl
            have dfI : decide ((f : Int) < (i : Int)) = false := decide_eq_false (by omega)
            have HX := Lib.hid (RwRel.gap (wr := wr) HC.out HF.out.1 hfl HF.out.2 HO.out HB.out)
            clear hfl
            go_wp2
            go_roundw
            case rel => exact ⟨i + 1, by omega, by go_num, HX.out⟩
            case measure => simp [intOf]; omega
        · have t32 : (((s[i]'hls).toNat : Int) == 32) = false := by
            rw [← hg, beq_eq_false_iff_ne]
            intro e
            exact h32 (UInt8.toNat_inj.1 (by have : (l.getD i 0).toNat = 32 := by omega
                                             exact this))
          have HX := Lib.hid (HR.out.stay (i := i) (fun e => by
            rcases e with e | e
            · rw [HL.out.2.2] at e; omega
            · exact h32 e))
          clear h32 hg hiN
          go_wp2
          go_roundw
          case rel => exact ⟨i + 1, by omega, by go_num, HX.out⟩
          case measure => simp [intOf]; omega
    · obtain rfl : i = N + 1 := by omega
      have hni : ¬ ((N + 1 : Nat) : Int) ≤ (N : Int) := by omega
      have di : decide (((N + 1 : Nat) : Int) ≤ (N : Int)) = false := decide_eq_false hni
      have e1 : rwords l = (wl l (N + 1)).1 := by rw [rwords, HL.out.2.2]
      have HFin := Lib.hid (show (rwords l).length = n ∧ Own 9 wr w.heap.size A n c (strsL (rwords l)) by rw [e1]; exact ⟨HF.out.2, HO.out⟩)
      clear e1
      go_wp2
      go_ret
      exact ⟨A, c, by rw [HFin.out.1]; rfl, by rw [HFin.out.1]; exact HFin.out.2, HB.out⟩
end Go.Proofs.YtfdcponamkfcaaaDoor
