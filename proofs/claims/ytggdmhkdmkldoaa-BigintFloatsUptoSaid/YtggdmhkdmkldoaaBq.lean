import Derived.Test.YtggdmhkdmkldoaaBp
import Derived.Test.YtggdmhkdmkldoaaKnuth
import Derived.Deep.DeepCutAuto
import Derived.Deep.CutBlock
namespace Go.Proofs.Ytggdmhkdmkldoaa
open Go.RowKit Hb

abbrev UBu := UB 48

/-- the first loop's relation -/
def GuessRel (T v1 : Nat) (U V : Nat) (qv rv : Value) : Prop :=
  ∃ q r : Nat, qv = .int .u64 (q : Int) ∧ rv = .int .u64 (r : Int) ∧ q * v1 + r = T ∧ r < 4294967296 ∧ U < (q + 1) * V ∧ q < 18446744073709551616

/-- at the head of the loop that takes q times v from the row -/
def TakeRel (w : World) (g k _n q : Nat) (L vl : List Nat) (i : Nat) (bv cv : Value) (wr : World) : Prop :=
  ∃ (L' : List Nat) (bb cc : Nat), bv = .int .u64 (bb : Int) ∧ cv = .int .u64 (cc : Int) ∧ bb ≤ 1 ∧ cc < 4294967296 ∧ L'.length = L.length ∧ Dig W L' ∧ L'.take k = L.take k ∧ L'.drop (k + i) = L.drop (k + i) ∧
    nvp W (L'.drop k) i + q * nvp W vl i = nvp W (L.drop k) i + W ^ i * (cc + bb) ∧ UBu wr g L' ∧ w.grownBy wr (some g)
theorem take_set_lo {L : List Nat} {k p v : Nat} (h : k ≤ p) : (L.set p v).take k = L.take k := by
  rw [List.take_set]; exact List.set_eq_of_length_le (by rw [List.length_take]; omega)
theorem drop_set_hi {L : List Nat} {k p v : Nat} (h : p < k) : (L.set p v).drop k = L.drop k := by rw [List.drop_set, if_pos h]
theorem drop_set_in {L : List Nat} {k i v : Nat} : (L.set (k + i) v).drop k = (L.drop k).set i v := by rw [List.drop_set, if_neg (by omega)]; congr 1; omega
theorem nvp_set_hi {b : Nat} {l : List Nat} {i v : Nat} : nvp b (l.set i v) i = nvp b l i := by unfold nvp; rw [take_set_lo (Nat.le_refl _)]
theorem nvp_set_at {b : Nat} {l : List Nat} {i v : Nat} (h : i < l.length) : nvp b (l.set i v) (i + 1) = nvp b l i + b ^ i * v := by
  rw [nvp_succ, nvp_set_hi, List.getD_eq_getElem?_getD, List.getElem?_set_self h]; rfl
theorem getD_drop (L : List Nat) (k i : Nat) : (L.drop k).getD i 0 = L.getD (k + i) 0 := by
  rw [List.getD_eq_getElem?_getD, List.getD_eq_getElem?_getD, List.getElem?_drop]
theorem getD_of_drop {L L' : List Nat} {p : Nat} (h : L'.drop p = L.drop p) : L'.getD p 0 = L.getD p 0 := by
  have := congrArg (fun l => l.getD 0 0) h
  simpa [getD_drop] using this
theorem drop_more {L L' : List Nat} {p q : Nat} (h : L'.drop p = L.drop p) (hq : p ≤ q) : L'.drop q = L.drop q := by
  obtain ⟨r, rfl⟩ : ∃ r, q = p + r := ⟨q - p, by omega⟩
  rw [← List.drop_drop, ← List.drop_drop, h]
/-- the limb that is left, and what is owed -/
theorem take_num {d p bb t : Nat} (hd : d < 4294967296) (hb : bb ≤ 1) (ht : IntKind.u64.wrap (IntKind.u64.wrap ((d : Int) - (p : Int) % 4294967296) - (bb : Int)) = (t : Int)) :
    t % 4294967296 + p % 4294967296 + bb = d + 4294967296 * (t / 9223372036854775808) ∧ t / 9223372036854775808 ≤ 1 ∧ t < 18446744073709551616 := by
  rw [IntKind.wrap_u64, IntKind.wrap_u64] at ht
  omega
theorem take_step {b k v c x q d X Y p s bb b' : Nat} (h : v + q * Y = X + b ^ k * (c + bb)) (hp : p = q * x + c) (hs : s + p % b + bb = d + b * b') :
    (v + b ^ k * s) + q * (Y + b ^ k * x) = (X + b ^ k * d) + b ^ (k + 1) * (p / b + b') := by
  have h2 := Nat.mod_add_div p b
  have h3 : b ^ k * (s + p % b + bb) = b ^ k * (d + b * b') := by rw [hs]
  have h4 : b ^ k * (p % b + b * (p / b)) = b ^ k * (q * x + c) := by rw [h2, hp]
  rw [pow_succ_mul]
  simp only [Nat.mul_add] at h h3 h4 ⊢
  rw [Nat.mul_left_comm q (b ^ k) x]
  omega
theorem TakeRel.start {w wx : World} {g k n q : Nat} {L : List Nat} (hU : UBu w g L) (hL : Dig W L) (hd : Dr w wx) (vl : List Nat) : TakeRel w g k n q L vl 0 (.int .u64 0) (.int .u64 0) wx := by
  obtain ⟨m, rfl⟩ := hd
  exact ⟨L, 0, 0, rfl, rfl, by omega, by omega, rfl, hL, rfl, rfl, by simp [nvp_zero], hU.drewN m, gb_drewN (gb_refl _ _) m⟩
theorem TakeRel.facts {w wr : World} {g k n q i : Nat} {L vl : List Nat} {bv cv : Value} (h : TakeRel w g k n q L vl i bv cv wr) (hk : k + n + 1 ≤ L.length) (hi : i ≤ n) :
    ∃ bb cc d : Nat, bv = .int .u64 (bb : Int) ∧ cv = .int .u64 (cc : Int) ∧ bb ≤ 1 ∧ cc < 4294967296 ∧ d < 4294967296 ∧ L.getD (k + i) 0 = d ∧ wr.cell? ⟨g, k + i, none⟩ = some (.int .u32 (d : Int)) ∧ wr.frozen? ⟨g, k + i, none⟩ = false ∧ w.grownBy wr (some g) ∧
      (∀ x t p : Nat, i < n → vl.getD i 0 = x → x < 4294967296 → q < 4294967296 → q * x + cc = p → IntKind.u64.wrap (IntKind.u64.wrap ((d : Int) - (p : Int) % 4294967296) - (bb : Int)) = (t : Int) →
        TakeRel w g k n q L vl (i + 1) (.int .u64 ((t / 9223372036854775808 : Nat) : Int)) (.int .u64 ((p / 4294967296 : Nat) : Int)) (wr.setCell ⟨g, k + i, none⟩ (.int .u32 ((t % 4294967296 : Nat) : Int)))) := by
  obtain ⟨L', bb, cc, rfl, rfl, hb, hc, h1, h2, h3, h4, h5, h6, h7⟩ := h
  have hg := getD_of_drop h4
  refine ⟨bb, cc, L'.getD (k + i) 0, rfl, rfl, hb, hc, h2.getD (by decide) _, hg.symm, h6.cell (by omega), h6.frozen _, h7, ?_⟩
  rintro x t p hin rfl hx hq rfl ht
  have hd : L'.getD (k + i) 0 < 4294967296 := h2.getD (by decide) _
  obtain ⟨e1, e2, e3⟩ := take_num hd hb ht
  have hml := (mul_lt (c := cc) hq hx (show 0 < 4294967296 by decide) hc).2
  refine ⟨L'.set (k + i) (t % 4294967296), _, _, rfl, rfl, e2, by simpa using hml, by simpa using h1, h2.set (Nat.mod_lt _ (by decide)) _, by rw [take_set_lo (by omega)]; exact h3, ?_, ?_, h6.set_ _ _, gb_setCell h7 _ _⟩
  · rw [drop_set_hi (by omega)]; exact drop_more h4 (by omega)
  · rw [drop_set_in, nvp_set_at (by rw [List.length_drop]; omega), nvp_succ, nvp_succ, getD_drop, ← hg]
    exact take_step h5 rfl e1

/-- the block while one row of it is turned -/
def RowSt (w : World) (g k n : Nat) (L L2 : List Nat) (wr : World) : Prop :=
  L2.length = L.length ∧ Dig W L2 ∧ L2.take k = L.take k ∧ L2.drop (k + n + 1) = L.drop (k + n + 1) ∧ UBu wr g L2 ∧ w.grownBy wr (some g)
def DigPost (w : World) (g k n U V : Nat) (L : List Nat) (e : Ending) (w' : World) : Prop :=
  e = .returned (.int .u32 ((U / V : Nat) : Int)) ∧ ∃ L2, RowSt w g k n L L2 w' ∧ nvp W (L2.drop k) (n + 1) = U % V
theorem last_num {d cc bb t : Nat} (hd : d < 4294967296) (hc : cc < 4294967296) (hb : bb ≤ 1) (ht : IntKind.u64.wrap (IntKind.u64.wrap ((d : Int) - (cc : Int)) - (bb : Int)) = (t : Int)) :
    t % 4294967296 + (cc + bb) = d + 4294967296 * (t / 9223372036854775808) ∧ t / 9223372036854775808 ≤ 1 ∧ t < 18446744073709551616 := by
  rw [IntKind.wrap_u64, IntKind.wrap_u64] at ht
  omega
/-- behind the loop: the row's highest limb -/
theorem TakeRel.end_ {w wr : World} {g k n q : Nat} {L vl : List Nat} {bb cc d t : Nat} (h : TakeRel w g k n q L vl n (.int .u64 (bb : Int)) (.int .u64 (cc : Int)) wr) (hk : k + n + 1 ≤ L.length) (hvl : vl.length = n)
    (hd : L.getD (k + n) 0 = d) (hL : Dig W L) (ht : IntKind.u64.wrap (IntKind.u64.wrap ((d : Int) - (cc : Int)) - (bb : Int)) = (t : Int)) :
    ∃ L2, RowSt w g k n L L2 (wr.setCell ⟨g, k + n, none⟩ (.int .u32 ((t % 4294967296 : Nat) : Int))) ∧ L2.getD (k + n) 0 = t % 4294967296 ∧
      nvp W (L2.drop k) (n + 1) + q * nv W vl = nvp W (L.drop k) (n + 1) + W ^ (n + 1) * (t / 9223372036854775808) ∧ t / 9223372036854775808 ≤ 1 ∧ t < 18446744073709551616 := by
  obtain ⟨L', bb', cc', e1, e2, hb, hc, h1, h2, h3, h4, h5, h6, h7⟩ := h
  obtain rfl : bb = bb' := by injection e1 with _ e1; omega
  obtain rfl : cc = cc' := by injection e2 with _ e2; omega
  have hdb : d < 4294967296 := by rw [← hd]; exact hL.getD (by decide) _
  obtain ⟨f1, f2, f3⟩ := last_num hdb hc hb ht
  refine ⟨L'.set (k + n) (t % 4294967296), ⟨by simpa using h1, h2.set (Nat.mod_lt _ (by decide)) _, by rw [take_set_lo (by omega)]; exact h3, ?_, h6.set_ _ _, gb_setCell h7 _ _⟩, ?_, ?_, f2, f3⟩
  · rw [drop_set_hi (by omega)]; exact drop_more h4 (by omega)
  · rw [List.getD_eq_getElem?_getD, List.getElem?_set_self (by omega)]; rfl
  · rw [drop_set_in, nvp_set_at (by rw [List.length_drop]; omega), nvp_succ, getD_drop, hd, pow_succ_mul]
    rw [nvp_all (Nat.le_of_eq hvl)] at h5
    have h8 : W ^ n * (t % 4294967296 + (cc + bb)) = W ^ n * (d + 4294967296 * (t / 9223372036854775808)) := by rw [f1]
    rw [Nat.mul_add, Nat.mul_add (W ^ n) d] at h8
    have e : W * (t / 9223372036854775808) = 4294967296 * (t / 9223372036854775808) := rfl
    rw [e]
    omega
/-- at the head of the loop that adds it back -/
def BackRel (w : World) (g k n : Nat) (L L2 vl : List Nat) (i : Nat) (cv : Value) (wr : World) : Prop :=
  ∃ (L3 : List Nat) (c : Nat), cv = .int .u32 (c : Int) ∧ c ≤ 1 ∧ RowSt w g k n L L3 wr ∧ L3.drop (k + i) = L2.drop (k + i) ∧ nvp W (L3.drop k) i + W ^ i * c = nvp W (L2.drop k) i + nvp W vl i
theorem BackRel.start {w wr : World} {g k n : Nat} {L L2 : List Nat} (h : RowSt w g k n L L2 wr) (vl : List Nat) : BackRel w g k n L L2 vl 0 (.int .u32 0) wr :=
  ⟨L2, 0, rfl, by omega, h, rfl, by simp [nvp_zero]⟩
theorem BackRel.drew {w wr : World} {g k n i : Nat} {L L2 vl : List Nat} {cv : Value} (h : BackRel w g k n L L2 vl i cv wr) : BackRel w g k n L L2 vl i cv wr.drew := by
  obtain ⟨L3, c, e, hc, ⟨h1, h2, h3, h4, h5, h6⟩, h7, h8⟩ := h
  exact ⟨L3, c, e, hc, ⟨h1, h2, h3, h4, h5, gb_drewN h6 1⟩, h7, h8⟩
theorem BackRel.facts {w wr : World} {g k n i : Nat} {L L2 vl : List Nat} {cv : Value} (h : BackRel w g k n L L2 vl i cv wr) (hk : k + n + 1 ≤ L.length) (hi : i ≤ n) (hm : Dig W vl) :
    ∃ c d : Nat, cv = .int .u32 (c : Int) ∧ c ≤ 1 ∧ d < 4294967296 ∧ L2.getD (k + i) 0 = d ∧ wr.cell? ⟨g, k + i, none⟩ = some (.int .u32 (d : Int)) ∧ wr.frozen? ⟨g, k + i, none⟩ = false ∧ w.grownBy wr (some g) ∧
      (∀ x : Nat, i < n → vl.getD i 0 = x →
        BackRel w g k n L L2 vl (i + 1) (.int .u32 (((d + x + c) / 4294967296 : Nat) : Int)) (wr.setCell ⟨g, k + i, none⟩ (.int .u32 (((d + x + c) % 4294967296 : Nat) : Int)))) ∧
      (i = n → vl.length = n → ∃ L3, RowSt w g k n L L3 (wr.setCell ⟨g, k + i, none⟩ (.int .u32 (((d + c) % 4294967296 : Nat) : Int))) ∧
        nvp W (L3.drop k) (n + 1) + W ^ (n + 1) * ((d + c) / 4294967296) = nvp W (L2.drop k) (n + 1) + nv W vl) := by
  obtain ⟨L3, c, rfl, hc, ⟨h1, h2, h3, h4, h5, h6⟩, h7, h8⟩ := h
  have hg := getD_of_drop h7
  have hd : L3.getD (k + i) 0 < 4294967296 := h2.getD (by decide) _
  refine ⟨c, L3.getD (k + i) 0, rfl, hc, hd, hg.symm, h5.cell (by omega), h5.frozen _, h6, ?_, ?_⟩
  · rintro x hin rfl
    have hx : vl.getD i 0 < 4294967296 := hm.getD (by decide) _
    refine ⟨L3.set (k + i) ((L3.getD (k + i) 0 + vl.getD i 0 + c) % 4294967296), _, rfl, by omega, ⟨by simpa using h1, h2.set (Nat.mod_lt _ (by decide)) _, by rw [take_set_lo (by omega)]; exact h3, ?_, h5.set_ _ _, gb_setCell h6 _ _⟩, ?_, ?_⟩
    · rw [drop_set_hi (by omega)]; exact h4
    · rw [drop_set_hi (by omega)]; exact drop_more h7 (by omega)
    · rw [drop_set_in, nvp_set_at (by rw [List.length_drop]; omega), nvp_succ, nvp_succ, getD_drop, ← hg]
      exact add_step h8
  · rintro rfl hvl
    refine ⟨L3.set (k + i) ((L3.getD (k + i) 0 + c) % 4294967296), ⟨by simpa using h1, h2.set (Nat.mod_lt _ (by decide)) _, by rw [take_set_lo (by omega)]; exact h3, ?_, h5.set_ _ _, gb_setCell h6 _ _⟩, ?_⟩
    · rw [drop_set_hi (by omega)]; exact h4
    · rw [drop_set_in, nvp_set_at (by rw [List.length_drop]; omega), nvp_succ, getD_drop, ← hg]
      rw [nvp_all (Nat.le_of_eq hvl)] at h8
      have h9 := add_step (x := L3.getD (k + i) 0) (y := 0) h8
      simpa using h9
theorem digit_ok {U V q R N t : Nat} (hV : 0 < V) (h1 : U < (q + 1) * V) (h2 : q * V ≤ U + V) (h : R + q * V = U + N * t) (ht : t = 0) : U / V = q ∧ U % V = R := by
  subst ht
  rw [Nat.mul_zero, Nat.add_zero] at h
  rcases quo_of hV h1 h2 with ⟨a, b, c⟩ | ⟨a, b, c, d⟩
  · exact ⟨b, by omega⟩
  · omega
theorem digit_back {U V q R N t F z : Nat} (hV : 0 < V) (h1 : U < (q + 1) * V) (h2 : q * V ≤ U + V) (h : R + q * V = U + N * t) (ht : t = 1) (hR : R < N) (hF : F + N * z = R + V) (hFN : F < N) (hVN : V ≤ N) :
    1 ≤ q ∧ U / V = q - 1 ∧ U % V = F := by
  subst ht
  rw [Nat.mul_one] at h
  rcases quo_of hV h1 h2 with ⟨a, b, c⟩ | ⟨a, b, c, d⟩
  · omega
  · have h3 : U % V < V := Nat.mod_lt _ hV
    have hz : z = 1 := by
      rcases Nat.lt_or_ge z 1 with hz | hz
      · obtain rfl : z = 0 := by omega
        rw [Nat.mul_zero] at hF; omega
      · rcases Nat.lt_or_ge 1 z with hz2 | hz2
        · have := Nat.mul_le_mul_left N hz2
          omega
        · omega
    subst hz
    rw [Nat.mul_one] at hF
    exact ⟨b, c, by omega⟩

set_option maxHeartbeats 4000000 in
set_option maxRecDepth 100000 in
theorem digit_any {Bv g k n c : Nat} {A : Option Addr} {L vl : List Nat} {w : World} {T u0 Ul v1 v0 Vl P U V : Nat} (hv : SlU w Bv A n c vl) (hBg : Bv ≤ g) (hU : UBu w g L) (hL : Dig W L) (hn : 2 ≤ n) (hk : k + n + 1 ≤ L.length) (hmax : L.length ≤ 1000000000)
    (ev1 : vl.getD (n - 1) 0 = v1) (ev0 : vl.getD (n - 2) 0 = v0) (eT : L.getD (k + n) 0 * 4294967296 + L.getD (k + (n - 1)) 0 = T) (eu0 : L.getD (k + (n - 2)) 0 = u0)
    (K : Kn W T u0 Ul v1 v0 Vl P U V) (hUe : nvp W (L.drop k) (n + 1) = U) (hVe : nv W vl = V) :
    Calls Try.prog 101 #[.slice (some ⟨g, k, none⟩) (n + 1) (n + 1), .slice A n c] w (DigPost w g k n U V L) := by
  have HT0 := Lib.hid (fun q wx (hd : Dr w wx) => TakeRel.start (n := n) (k := k) (q := q) hU hL hd vl)
  have HBv := Lib.hid (Nat.le_trans hBg (Nat.le_of_lt hU.lt))
  obtain ⟨b, off, rfl, hbb, hcell⟩ := hv.at_ (by omega)
  have HCX := Lib.hid hcell
  have hxn := hU.cell (i := k + n) (by omega)
  have hxn1 := hU.cell (i := k + (n - 1)) (by omega)
  have hxn2 := hU.cell (i := k + (n - 2)) (by omega)
  have hy1 := hcell (n - 1) (by omega)
  have hy0 := hcell (n - 2) (by omega)
  rw [ev1] at hy1
  rw [ev0] at hy0
  rw [eu0] at hxn2
  have b1 : L.getD (k + n) 0 < 4294967296 := hL.getD (by decide) _
  have b2 : L.getD (k + (n - 1)) 0 < 4294967296 := hL.getD (by decide) _
  have bv1 : v1 < 4294967296 := by rw [← ev1]; exact hv.dig.getD (by decide) _
  have hor := or_hi_lo _ _ b1 b2
  have hn1 : (1 : Int) ≤ (n : Int) := by omega
  have hn2 : (2 : Int) ≤ (n : Int) := by omega
  have hv1 := K.hv1
  have hv1i : (1 : Int) ≤ (v1 : Int) := by omega
  have hT18 : T < 18446744073709551616 := by omega
  rw [eT] at hor
  have hdm := K.guess
  have hr0 : T % v1 < v1 := Nat.mod_lt _ (by omega)
  have hq0 : T / v1 < 18446744073709551616 := Nat.lt_of_le_of_lt (Nat.div_le_self _ _) hT18
  obtain ⟨q0, hq0e⟩ : ∃ q0, T / v1 = q0 := ⟨_, rfl⟩
  obtain ⟨r0, hr0e⟩ : ∃ r0, T % v1 = r0 := ⟨_, rfl⟩
  have hqi : (T : Int) / (v1 : Int) = (q0 : Int) := by rw [← hq0e]; simp
  have hri : (T : Int) % (v1 : Int) = (r0 : Int) := by rw [← hr0e]; simp
  rw [hq0e] at hdm hq0
  rw [hr0e] at hdm hr0
  have hG := Lib.hid (show GuessRel T v1 U V (.int .u64 (q0 : Int)) (.int .u64 (r0 : Int)) from ⟨q0, r0, rfl, rfl, hdm.1, by omega, hdm.2, hq0⟩)
  generalize L.getD (k + n) 0 = un at *
  generalize L.getD (k + (n - 1)) 0 = un1 at *
  clear hdm hr0 hq0e hr0e ev1 ev0 eT eu0 hcell
  have HK := Lib.hid K
  have HV0 := Lib.hid (show 0 < V by rcases Nat.eq_zero_or_pos V with h | h; (· have := K.hUV; rw [h, Nat.mul_zero] at this; omega); (· exact h))
  clear K
  go_enter Try.func101, Try.ntmps101
  go_wp2_with fail
  go_quiet (fail)
  go_upto_block 0 with fail
  have HRI := Lib.hid hri
  clear hri hqi hor hxn hxn1 hq0 b1 b2
  go_cut [7] from 48 to 81 (fun qv wx => ∃ q : Nat, qv = .int .u64 (q : Int) ∧ q < 4294967296 ∧ Hid (U < (q + 1) * V ∧ q * V ≤ U + V) ∧ Dr w wx)
  case first =>
    go_wp2_with fail
    go_loopw [7, 8] (fun qv rv wr => GuessRel T v1 U V qv rv ∧ Dr w wr) (fun qv _ _ => (intOf qv).toNat)
    case atStart => exact ⟨by rw [HRI.out]; exact hG.out, (Dr.refl _).more _⟩
    case round =>
      obtain ⟨⟨q, r, rfl, rfl, hq, hr, hU1, hq18⟩, hdr⟩ := hrel
      have HQ := Lib.hid hq
      have HU1 := Lib.hid hU1
      have hxn2 := (hdr.cell _).trans hxn2
      have hy1 := (hdr.cell _).trans hy1
      have hy0 := (hdr.cell _).trans hy0
      clear hU hq hU1
      by_cases hqW : 4294967296 ≤ q
      · have HT : 4294967296 ≤ q ∨ r * W + u0 < q * v0 := .inl hqW
        have hqWd : decide ((4294967296 : Int) ≤ (q : Int)) = true := decide_eq_true (by omega)

        have hd1 := HK.out.down (q := q) (r := r) HQ.out HT
        obtain ⟨p, hpe⟩ : ∃ p, q = p + 1 := ⟨q - 1, by omega⟩
        have HU2 := Lib.hid (show U < (p + 1) * V from hpe ▸ hd1.2)
        have hp1 : (q : Int) - 1 = (p : Int) := by omega
        have hq2 : p * v1 + (r + v1) = T := by have := HQ.out; rw [hpe, Nat.add_mul] at this; omega
        have HQ2 := Lib.hid hq2
        have hq1 : (1 : Int) ≤ (q : Int) := by omega
        have HPE := Lib.hid hpe
        clear hd1 hq2 hpe HT
        by_cases hrb : 4294967296 ≤ r + v1
        · have hb := HK.out.broke HQ2.out hrb
          have hs := HK.out.stop HQ2.out hb.1 hb.2
          have HF := Lib.hid (show U < (p + 1) * V ∧ p * V ≤ U + V from ⟨HU2.out, hs⟩)
          have hp9 := hb.1
          have hrb2 : decide ((4294967296 : Int) ≤ (r : Int) + (v1 : Int)) = true := decide_eq_true (by omega)
          clear hb hs
          go_wp2_with fail
          go_quiet (fail)
          go_wp2_with fail
          go_meet
          exact ⟨p, by go_num, hp9, HF, hdr.more _⟩
        · have hrb2 : decide ((4294967296 : Int) ≤ (r : Int) + (v1 : Int)) = false := decide_eq_false (by omega)
          go_wp2_with fail
          go_quiet (fail)
          go_wp2_with fail
          go_roundw
          case rel => exact ⟨⟨p, r + v1, by go_num, by go_num, HQ2.out, by omega, HU2.out, by omega⟩, hdr.more _⟩
          case measure => have := HPE.out; simp [intOf]; omega
      · have hqWd : decide ((4294967296 : Int) ≤ (q : Int)) = false := decide_eq_false (by omega)
        have hu0 : u0 < 4294967296 := HK.out.hu0
        have hv0 : v0 < 4294967296 := HK.out.hv0
        have hz := (mul_lt (x := q) (y := v0) (d := 0) (c := 0) (by omega) hv0 (by omega) (by omega)).1
        have hor2 := or_hi_lo r u0 hr hu0
        obtain ⟨z, hze⟩ : ∃ z, q * v0 = z := ⟨_, rfl⟩
        obtain ⟨y, hye⟩ : ∃ y, r * 4294967296 + u0 = y := ⟨_, rfl⟩
        have hzi : (q : Int) * (v0 : Int) = (z : Int) := by rw [← hze]; simp
        have hy18 : y < 18446744073709551616 := by omega
        rw [hye] at hor2
        rw [hze] at hz
        by_cases hyz : y < z
        · have HT : 4294967296 ≤ q ∨ r * W + u0 < q * v0 := .inr (by rw [hze]; show r * 4294967296 + u0 < z; rw [hye]; exact hyz)
          have hyzd : decide ((y : Int) < (z : Int)) = true := decide_eq_true (by omega)
          have hyzd' : decide (y < z) = true := decide_eq_true (by omega)
          clear hze hye

          have hd1 := HK.out.down (q := q) (r := r) HQ.out HT
          obtain ⟨p, hpe⟩ : ∃ p, q = p + 1 := ⟨q - 1, by omega⟩
          have HU2 := Lib.hid (show U < (p + 1) * V from hpe ▸ hd1.2)
          have hp1 : (q : Int) - 1 = (p : Int) := by omega
          have hq2 : p * v1 + (r + v1) = T := by have := HQ.out; rw [hpe, Nat.add_mul] at this; omega
          have HQ2 := Lib.hid hq2
          have hq1 : (1 : Int) ≤ (q : Int) := by omega
          have HPE := Lib.hid hpe
          clear hd1 hq2 hpe HT
          by_cases hrb : 4294967296 ≤ r + v1
          · have hb := HK.out.broke HQ2.out hrb
            have hs := HK.out.stop HQ2.out hb.1 hb.2
            have HF := Lib.hid (show U < (p + 1) * V ∧ p * V ≤ U + V from ⟨HU2.out, hs⟩)
            have hp9 := hb.1
            have hrb2 : decide ((4294967296 : Int) ≤ (r : Int) + (v1 : Int)) = true := decide_eq_true (by omega)
            clear hb hs
            go_wp2_with fail
            go_quiet (fail)
            go_wp2_with fail
            go_meet
            exact ⟨p, by go_num, hp9, HF, hdr.more _⟩
          · have hrb2 : decide ((4294967296 : Int) ≤ (r : Int) + (v1 : Int)) = false := decide_eq_false (by omega)
            go_wp2_with fail
            go_quiet (fail)
            go_wp2_with fail
            go_roundw
            case rel => exact ⟨⟨p, r + v1, by go_num, by go_num, HQ2.out, by omega, HU2.out, by omega⟩, hdr.more _⟩
            case measure => have := HPE.out; simp [intOf]; omega
        · have hs := HK.out.stop HQ.out (show q < 4294967296 by omega) (by rw [hze]; show z ≤ r * 4294967296 + u0; rw [hye]; omega)
          have hyzd : decide ((y : Int) < (z : Int)) = false := decide_eq_false (by omega)
          have hyzd' : decide (y < z) = false := decide_eq_false (by omega)
          have HF := Lib.hid (show U < (q + 1) * V ∧ q * V ≤ U + V from ⟨HU1.out, hs⟩)
          have hq9 : q < 4294967296 := by omega
          clear hze hye hs
          go_wp2_with fail
          go_quiet (fail)
          go_wp2_with fail
          go_meet
          exact ⟨q, rfl, hq9, HF, hdr.more _⟩
  case rest =>
    obtain ⟨q, rfl, hq, HQ, hdr⟩ := hcut
    go_wp2_with fail
    go_loopw [9, 10, 84] (fun bv cv iv wr => ∃ i : Nat, i ≤ n ∧ iv = .int .i64 i ∧ TakeRel w g k n q L vl i bv cv wr) (fun _ _ iv _ => n - (intOf iv).toNat)
    case atStart => exact ⟨0, Nat.zero_le _, rfl, HT0.out _ _ hdr⟩
    case round =>
      obtain ⟨i, hi, rfl, hrel⟩ := hrel
      by_cases hin : i < n
      · obtain ⟨bb, cc, d, rfl, rfl, hbb1, hcc1, hd, _, hcd, hf, hgb, hstep⟩ := hrel.facts hk (Nat.le_of_lt hin)
        have hcx := (((gb_below hgb hBg HBv.out).cell (p := ⟨b, off + i, none⟩) hbb)).trans (HCX.out i hin)
        obtain ⟨x, hxe⟩ : ∃ x, vl.getD i 0 = x := ⟨_, rfl⟩
        have hx : x < 4294967296 := by rw [← hxe]; exact hv.dig.getD (by decide) i
        rw [hxe] at hcx
        have hz := (mul_lt hq hx hcc1 hcc1).1
        obtain ⟨z, hze⟩ : ∃ z, q * x = z := ⟨_, rfl⟩
        have hzi : (q : Int) * (x : Int) = (z : Int) := by rw [← hze]; simp
        rw [hze] at hz
        obtain ⟨t, hte⟩ : ∃ t : Nat, t = (IntKind.u64.wrap (IntKind.u64.wrap ((d : Int) - ((z : Int) + (cc : Int)) % 4294967296) - (bb : Int))).toNat := ⟨_, rfl⟩
        have htw : IntKind.u64.wrap (IntKind.u64.wrap ((d : Int) - ((z : Int) + (cc : Int)) % 4294967296) - (bb : Int)) = (t : Int) := by
          rw [hte, IntKind.wrap_u64]; omega
        have ht18 := (take_num (p := z + cc) (t := t) hd hbb1 (by rw [show ((z + cc : Nat) : Int) = (z : Int) + (cc : Int) by omega]; exact htw)).2.2
        have HS := Lib.hid (hstep x t (z + cc) hin hxe hx hq (by rw [hze]) (by rw [show ((z + cc : Nat) : Int) = (z : Int) + (cc : Int) by omega]; exact htw))
        have hi0 : (0 : Int) ≤ (i : Int) := by omega
        have hi1 : (i : Int) < (n : Int) := by omega
        have hi2 : (i : Int) < (n : Int) + 1 := by omega
        clear hze hte hxe hstep hgb hrel
        go_wp2_with fail
        go_roundw
        case rel => exact ⟨i + 1, by omega, by go_num, HS.out⟩
        case measure => simp [intOf]; omega
      · obtain rfl : i = n := by omega
        obtain ⟨bb, cc, d, rfl, rfl, hbb1, hcc1, hd, hde, hcd, hf, hgb, _⟩ := hrel.facts hk (Nat.le_refl _)
        obtain ⟨t, hte⟩ : ∃ t : Nat, t = (IntKind.u64.wrap (IntKind.u64.wrap ((d : Int) - (cc : Int)) - (bb : Int))).toNat := ⟨_, rfl⟩
        have htw : IntKind.u64.wrap (IntKind.u64.wrap ((d : Int) - (cc : Int)) - (bb : Int)) = (t : Int) := by
          rw [hte, IntKind.wrap_u64]; omega
        obtain ⟨L2, hL2, hL2d, hval, ht1, ht18⟩ := hrel.end_ hk hv.len hde hL htw
        have HQ3 := HQ.out
        have hi0 : (0 : Int) ≤ (i : Int) := by omega
        have hi2 : (i : Int) < (i : Int) + 1 := by omega
        rw [hUe, hVe] at hval
        by_cases ht0 : t / 9223372036854775808 = 0
        · have HF := Lib.hid (digit_ok HV0.out HQ3.1 HQ3.2 hval ht0)
          have HL2 := Lib.hid hL2
          have htz : ((t : Int) / 9223372036854775808 == 0) = true := beq_iff_eq.2 (by omega)
          clear hL2 hval ht0 ht1 hte hrel hde HQ3 hgb hL2d
          go_wp2_with fail
          go_ret
          exact ⟨ret_int (by rw [HF.out.1]), L2, HL2.out, HF.out.2.symm⟩
        · have HL2 := Lib.hid hL2
          have HVal := Lib.hid hval
          have HT1 := Lib.hid (show t / 9223372036854775808 = 1 by omega)
          have HD2 := Lib.hid hL2d
          have htz : ((t : Int) / 9223372036854775808 == 0) = false := beq_eq_false_iff_ne.2 (by omega)
          clear hL2 hval ht0 ht1 hte hrel hde HQ3 hgb hL2d hxn2 hy1 hy0 hU hdr
          go_wp2_with fail
          clear hcd hf
          go_loopw [15, 138] (fun cv iv wr => ∃ j : Nat, j ≤ i ∧ iv = .int .i64 j ∧ BackRel w g k i L L2 vl j cv wr) (fun _ iv _ => i - (intOf iv).toNat)
          case atStart => exact ⟨0, Nat.zero_le _, rfl, BackRel.start HL2.out vl⟩
          case round =>
            obtain ⟨j, hj, rfl, hback⟩ := hrel
            obtain ⟨cy, d3, rfl, hcy, hd3, hd3e, hcd3, hf3, hgb3, hstep3, hend3⟩ := hback.facts hk hj hv.dig
            by_cases hji : j < i
            · have hcx := (((gb_below hgb3 hBg HBv.out).cell (p := ⟨b, off + j, none⟩) hbb)).trans (HCX.out j hji)
              obtain ⟨x, hxe⟩ : ∃ x, vl.getD j 0 = x := ⟨_, rfl⟩
              have hx : x < 4294967296 := by rw [← hxe]; exact hv.dig.getD (by decide) j
              rw [hxe] at hcx
              have HS := Lib.hid (hstep3 x hji hxe)
              have HA := Lib.hid (fun w1 => add32_any d3 x cy w1 hd3 hx hcy)
              have hj0 : (0 : Int) ≤ (j : Int) := by omega
              have hj1 : (j : Int) < (i : Int) := by omega
              have hj2 : (j : Int) < (i : Int) + 1 := by omega
              clear hxe hstep3 hend3 hgb3 hback
              go_wp2_with fail
              go_region_with (first | (go_at_call 106; (with_reducible refine (HA.out _).mono ?_); rintro e w' ⟨rfl, rfl⟩))
              all_goals
                go_wp2_with fail
                go_roundw
                case rel => exact ⟨j + 1, by omega, by go_num, HS.out.drew⟩
                case measure => simp [intOf]; omega
            · obtain rfl : j = i := by omega
              obtain ⟨L3, hL3, hval3⟩ := hend3 rfl hv.len
              have hR : nvp W (L2.drop k) (j + 1) < W ^ (j + 1) := nvp_lt ((HL2.out.2.1).drop _) (by decide) _
              have hF : nvp W (L3.drop k) (j + 1) < W ^ (j + 1) := nvp_lt ((hL3.2.1).drop _) (by decide) _
              have hVN : V ≤ W ^ (j + 1) := by
                have := nv_lt hv.dig
                rw [hv.len, hVe] at this
                exact Nat.le_trans (Nat.le_of_lt this) (Nat.pow_le_pow_right (by decide) (by omega))
              have HF := Lib.hid (digit_back HV0.out HQ.out.1 HQ.out.2 HVal.out HT1.out hR (by rw [hVe] at hval3; exact hval3) hF hVN)
              have HL3 := Lib.hid hL3
              have hj0 : (0 : Int) ≤ (j : Int) := by omega
              have hj2 : (j : Int) < (j : Int) + 1 := by omega
              have hq1 : (1 : Int) ≤ (q : Int) := by have := HF.out.1; omega
              have hdc : IntKind.u32.wrap ((d3 : Int) + (cy : Int)) = (((d3 + cy) % 4294967296 : Nat) : Int) := by rw [IntKind.wrap_u32]; omega
              clear hL3 hval3 hstep3 hend3 hgb3 hback hR hF hVN
              go_wp2_with fail
              go_ret
              exact ⟨ret_int (by rw [HF.out.2.1]; have := HF.out.1; omega), L3, HL3.out, HF.out.2.2.symm⟩
end Go.Proofs.Ytggdmhkdmkldoaa
