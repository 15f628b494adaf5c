import Derived.Test.YtggdmhkdmkldoaaCo
namespace Go.Proofs.Ytggdmhkdmkldoaa
open Go.RowKit Hb

theorem pval_rev (r : Nat) (l : List Nat) : pval r l.reverse = nv r l := by
  induction l with
  | nil => rfl
  | cons x l ih => rw [List.reverse_cons, pval_snoc, ih, nv_cons, Nat.mul_comm]; omega
theorem chr_byte {d : Nat} (h : d < 36) : (UInt8.ofNat (chrN d)).toNat = chrN d := by
  have : chrN d < 256 := by unfold chrN; split <;> omega
  simp only [UInt8.toNat_ofNat']
  exact Nat.mod_eq_of_lt this
theorem dval_chr {d : Nat} (h : d < 36) : dval (UInt8.ofNat (chrN d)).toNat = d := by
  rw [chr_byte h]
  unfold chrN dval
  by_cases h1 : d < 10
  · rw [if_pos h1, if_pos (by omega)]; omega
  · rw [if_neg h1, if_neg (by omega), if_pos (by omega)]; omega
theorem chr_ne {d : Nat} (h : d < 36) : UInt8.ofNat (chrN d) ≠ 45 := by
  intro e
  have h1 := chr_byte h
  rw [e] at h1
  have h2 : (45 : UInt8).toNat = 45 := rfl
  rw [h2] at h1
  unfold chrN at h1
  split at h1 <;> omega
theorem sdig_chr {l : List Nat} (h : ∀ d ∈ l, d < 36) : sdig (l.map fun d => UInt8.ofNat (chrN d)) = l := by
  induction l with
  | nil => rfl
  | cons d l ih =>
    simp only [sdig, List.map_cons, List.map_map] at ih ⊢
    rw [dval_chr (h d (by simp))]
    congr 1
    exact ih (fun x hx => h x (by simp [hx]))
/-- a text's parts -/
theorem txt_parts (neg : Bool) {r n : Nat} (hr : 2 ≤ r) (hr2 : r ≤ 36) :
    ∃ ds : List Nat, ds ≠ [] ∧ (∀ d ∈ ds, d < r) ∧ pval r ds = n ∧ ∃ sg : Bool, (if sg then -(n : Int) else (n : Int)) = (if neg then -(n : Int) else n) ∧
      (txtL neg r n).map UInt8.ofNat = (if sg then [45] else []) ++ ds.map fun d => UInt8.ofNat (chrN d) := by
  by_cases h0 : n = 0
  · subst h0
    refine ⟨[0], by simp, by simp; omega, by simp [pval], false, by simp, ?_⟩
    simp [txtL, chrN]
  · refine ⟨(digs r n).reverse, ?_, ?_, ?_, neg, rfl, ?_⟩
    · intro e
      have := List.reverse_eq_nil_iff.1 e
      exact h0 ((digs_eq_nil (by omega) n).1 this)
    · intro d hd
      exact dig_digs (by omega) n d (List.mem_reverse.1 hd)
    · rw [pval_rev, nv_digs (by omega)]
    · rw [txtL, if_neg h0, List.map_append, List.map_reverse, List.map_map, List.map_reverse]
      congr 1
      cases neg <;> rfl
theorem parse_txt {ds : List Nat} {r : Nat} (sg : Bool) (hr2 : r ≤ 36) (hne : ds ≠ []) (hd : ∀ d ∈ ds, d < r) :
    pVal ((if sg then [45] else []) ++ ds.map fun d => UInt8.ofNat (chrN d)) r = (if sg then -(pval r ds : Int) else (pval r ds : Int)) ∧ pBad ((if sg then [45] else []) ++ ds.map fun d => UInt8.ofNat (chrN d)) r = false := by
  have h36 : ∀ d ∈ ds, d < 36 := fun d h => Nat.lt_of_lt_of_le (hd d h) hr2
  have hrest : pNeg ((if sg then [45] else []) ++ ds.map fun d => UInt8.ofNat (chrN d)) = sg ∧ pRest ((if sg then [45] else []) ++ ds.map fun d => UInt8.ofNat (chrN d)) = ds.map fun d => UInt8.ofNat (chrN d) := by
    cases sg
    · have hn : pNeg (([] : List UInt8) ++ ds.map fun d => UInt8.ofNat (chrN d)) = false := by
        cases ds with
        | nil => exact absurd rfl hne
        | cons d ds =>
          rw [pNeg, List.nil_append, List.map_cons, List.head?_cons, beq_eq_false_iff_ne]
          intro e
          injection e with e
          exact chr_ne (h36 d (by simp)) e
      exact ⟨hn, by rw [pRest]; simp only [Bool.false_eq_true, if_false]; rw [hn]; rfl⟩
    · exact ⟨rfl, rfl⟩
  refine ⟨?_, ?_⟩
  · rw [pVal, hrest.1, hrest.2, sdig_chr h36]
    cases sg <;> rfl
  · rw [pBad, hrest.2, Bool.or_eq_false_iff]
    refine ⟨by cases ds with | nil => exact absurd rfl hne | cons d ds => rfl, ?_⟩
    rw [List.any_eq_false]
    intro c hc
    obtain ⟨d, h1, rfl⟩ := List.mem_map.1 hc
    rw [dval_chr (h36 d h1)]
    have := hd d h1
    simp; omega
theorem read_back (neg : Bool) {r n : Nat} (hr : 2 ≤ r) (hr2 : r ≤ 36) : pVal ((txtL neg r n).map UInt8.ofNat) r = (if neg then -(n : Int) else n) ∧ pBad ((txtL neg r n).map UInt8.ofNat) r = false := by
  obtain ⟨ds, h1, h2, h3, sg, h4, h5⟩ := txt_parts neg (n := n) hr hr2
  rw [h5]
  have := parse_txt sg hr2 h1 h2
  rw [h3, h4] at this
  exact this
theorem txt_same {na nb : Bool} {r m n : Nat} (h : (if na then -(m : Int) else (m : Int)) = (if nb then -(n : Int) else n)) : txtL na r m = txtL nb r n := by
  have hmn : m = n := by cases na <;> cases nb <;> simp at h <;> omega
  subst hmn
  by_cases h0 : m = 0
  · subst h0; rfl
  · have : na = nb := by cases na <;> cases nb <;> simp at h ⊢ <;> omega
    rw [this]
theorem txt_inj {na nb : Bool} {r m n : Nat} (hr : 2 ≤ r) (hr2 : r ≤ 36) (h : (txtL na r m).map UInt8.ofNat = (txtL nb r n).map UInt8.ofNat) : (if na then -(m : Int) else (m : Int)) = (if nb then -(n : Int) else n) := by
  rw [← (read_back na (n := m) hr hr2).1, ← (read_back nb (n := n) hr hr2).1, h]
theorem own_none {t : TypeId} {w : World} {B n c : Nat} {A : Option Addr} {xs : List Value} (h : Own t w B A n c xs) : A = none → c = 0 := by
  intro e
  rcases h.form with ⟨_, _, h1⟩ | ⟨g, h1, _⟩
  · exact h1
  · rw [h1] at e; cases e
theorem ival_if (neg : Bool) (l : List Nat) : ival neg l = if neg then -(nv W l : Int) else (nv W l : Int) := rfl
/-- the text of an integer -/
def txtZ (z : Int) (r : Nat) : List Nat := txtL (decide (z < 0)) r z.natAbs
theorem txtZ_eq {neg : Bool} {l : List Nat} {z : Int} (h : ival neg l = z) (r : Nat) : txtL neg r (nv W l) = txtZ z r := by
  refine txt_same ?_
  rw [← ival_if, h]
  by_cases hz : z < 0
  · rw [if_pos (by simpa using hz)]; omega
  · rw [if_neg (by simpa using hz)]; omega
theorem txtZ_back (z : Int) {r : Nat} (hr : 2 ≤ r) (hr2 : r ≤ 36) : pVal ((txtZ z r).map UInt8.ofNat) r = z ∧ pBad ((txtZ z r).map UInt8.ofNat) r = false := by
  have h := read_back (decide (z < 0)) (n := z.natAbs) hr hr2
  refine ⟨h.1.trans ?_, h.2⟩
  by_cases hz : z < 0
  · rw [if_pos (by simpa using hz)]; omega
  · rw [if_neg (by simpa using hz)]; omega
theorem strN_data (l : List Nat) : (strN l).data.toList = l.map UInt8.ofNat := rfl
theorem strN_inj {x y : Int} {r : Nat} (hr : 2 ≤ r) (hr2 : r ≤ 36) (h : strN (txtZ x r) = strN (txtZ y r)) : x = y := by
  have h2 : (txtZ x r).map UInt8.ofNat = (txtZ y r).map UInt8.ofNat := by rw [← strN_data, ← strN_data, h]
  rw [← (txtZ_back x hr hr2).1, ← (txtZ_back y hr hr2).1, h2]
def TextQ (w : World) (s : ByteArray) (e : Ending) (w' : World) : Prop := e = .returned (.tuple #[.string s, .int .i64 0]) ∧ Below w.heap.size w w'
theorem Text_z {w : World} {A : Option Addr} {n c : Nat} {l : List Nat} {neg : Bool} {z : Int} {r : Nat} {R : Int} {s : ByteArray} (hR : R = (r : Int)) (hr : 2 ≤ r) (hr2 : r ≤ 36) (hs : SlU w w.heap.size A n c l) (hn : n ≤ 1000) (hx : ival neg l = z) (t1 : tooLong z = false) (hq : strN (txtZ z r) = s) :
    Calls Try.prog 29 #[.agg #[.bool neg, .slice A n c], .int .i64 R] w (TextQ w s) := by
  subst hR
  have h := Text_any neg hs (by omega) (Nat.le_refl _) (r : Int)
  rw [lng_ival hx, t1, tList, tCode, if_neg (by simp), if_neg (by omega), if_neg (by simp), if_neg (by omega), Int.toNat_natCast, txtZ_eq hx] at h
  rw [← hq]
  exact h
theorem Parse_z {w : World} {z : Int} {r : Nat} {R : Int} {s : ByteArray} (hR : R = (r : Int)) (hr : 2 ≤ r) (hr2 : r ≤ 36) (t1 : tooLong z = false) (hq : strN (txtZ z r) = s) (hs : s.size ≤ maxLen) :
    Calls Try.prog 27 #[.string s, .int .i64 R] w (PostR w z 0) := by
  subst hR
  have h := Parse_any s (r : Int) w hs
  have hb := txtZ_back z hr hr2
  have e : s.data.toList = (txtZ z r).map UInt8.ofNat := by rw [← hq]; rfl
  rw [e, hb.1] at h
  have hc : pCode ((txtZ z r).map UInt8.ofNat) r = 0 := by rw [pCode_err hr hr2 hb.2, hb.1, t1]; rfl
  rw [hc] at h
  exact h.mono fun _ _ h => h.ok_ rfl
theorem strN_size {z : Int} {r : Nat} (hr : 2 ≤ r) (t : tooLong z = false) : (strN (txtZ z r)).size ≤ 4098 := by
  have h1 : (strN (txtZ z r)).size = (txtZ z r).length := by simp [strN, ByteArray.size]
  rw [h1, txtZ, txtL]
  have h2 := Classical.not_not.1 (of_decide_eq_false (tooLong_iff ▸ t))
  have h3 := digs_len_r hr h2
  split
  · simp
  · split <;> simp <;> omega
end Go.Proofs.Ytggdmhkdmkldoaa
