import Derived.Test.YtggdmhkdmkldoaaBr
namespace Go.Proofs.Ytggdmhkdmkldoaa
open Go.RowKit Hb

/-! ### the divisor, moved up till its highest bit is 1 -/
theorem lead_num {top : Nat} (h0 : top ≠ 0) (hlt : top < 4294967296) : 32 - blen top < 32 ∧ 2147483648 ≤ top * 2 ^ (32 - blen top) ∧ top * 2 ^ (32 - blen top) < 4294967296 ∧ blen top ≤ 32 ∧ (top + 1) * 2 ^ (32 - blen top) ≤ 4294967296 := by
  obtain ⟨h1, h2⟩ := blen_bounds h0
  have hp := blen_pos h0
  have h32 := blen32 hlt
  have e1 : 2 ^ (blen top - 1) * 2 ^ (32 - blen top) = 2147483648 := by rw [← Nat.pow_add, show blen top - 1 + (32 - blen top) = 31 by omega]
  have e2 : 2 ^ blen top * 2 ^ (32 - blen top) = 4294967296 := by rw [← Nat.pow_add, show blen top + (32 - blen top) = 32 by omega]
  have h3 := Nat.mul_le_mul_right (2 ^ (32 - blen top)) h1
  have h4 := Nat.mul_le_mul_right (2 ^ (32 - blen top)) (show top + 1 ≤ 2 ^ blen top from h2)
  have h5 : (top + 1) * 2 ^ (32 - blen top) = top * 2 ^ (32 - blen top) + 2 ^ (32 - blen top) := by rw [Nat.add_mul, Nat.one_mul]
  have h6 : 0 < 2 ^ (32 - blen top) := Nat.pow_pos (by decide)
  omega
/-- limbs below the highest -/
theorem nv_top {l : List Nat} {M : Nat} (hd : Dig W l) (hl : l.length = M + 1) : l.getD M 0 * W ^ M ≤ nv W l ∧ nv W l < (l.getD M 0 + 1) * W ^ M := by
  have h1 := nvp_succ W l M
  rw [nvp_all (by omega)] at h1
  have h2 := nvp_lt hd (by decide) M
  rw [Nat.add_mul, Nat.one_mul, Nat.mul_comm _ (W ^ M)]
  omega
theorem shifted_len {m o : List Nat} {M s : Nat} (hm : Dig W m) (hml : m.length = M + 1) (ho : Dig W o) (hol : o.length = M + 1 + 1) (ht0 : m.getD M 0 ≠ 0) (hs : s = 32 - blen (m.getD M 0)) (hv : nv W o = nv W m * 2 ^ s) :
    tlen o = M + 1 ∧ 2147483648 ≤ (tr o).getD M 0 := by
  have htl : m.getD M 0 < 4294967296 := hm.getD (by decide) M
  obtain ⟨_, g1, g2, _, g3⟩ := lead_num ht0 htl
  rw [← hs] at g1 g2 g3
  obtain ⟨t1, t2⟩ := nv_top hm hml
  have hp : 0 < W ^ M := Nat.pow_pos (by decide)
  -- nv o < W ^ (M + 1), and 2^31 W ^ M ≤ nv o
  have hhi : nv W o < W ^ (M + 1) := by
    rw [hv]
    have a := Nat.mul_lt_mul_of_pos_right t2 (show 0 < 2 ^ s from Nat.pow_pos (by decide))
    have b : (m.getD M 0 + 1) * W ^ M * 2 ^ s ≤ W ^ (M + 1) := by
      rw [Nat.mul_right_comm, Nat.pow_succ, Nat.mul_comm (W ^ M) W]
      exact Nat.mul_le_mul_right _ g3
    omega
  have hlo : 2147483648 * W ^ M ≤ nv W o := by
    rw [hv]
    have a := Nat.mul_le_mul_right (2 ^ s) t1
    have b : 2147483648 * W ^ M ≤ m.getD M 0 * W ^ M * 2 ^ s := by
      rw [Nat.mul_right_comm]; exact Nat.mul_le_mul_right _ g1
    omega
  have hd := ho.tr
  have hlen : (tr o).length = M + 1 := by
    rw [tr_eq_digs (b := W) (by decide) ho]
    have a : (digs W (nv W o)).length ≤ M + 1 := digs_length_le (by decide) hhi
    rcases Nat.lt_or_ge M (digs W (nv W o)).length with h | h
    · omega
    · have b := lt_of_digs_length (b := W) (by decide) h
      have e : 1 * W ^ M ≤ 2147483648 * W ^ M := Nat.mul_le_mul_right _ (by decide)
      rw [Nat.one_mul] at e
      omega
  refine ⟨by rw [← tr_length, hlen], ?_⟩
  obtain ⟨u1, u2⟩ := nv_top hd hlen
  rw [nv_tr] at u2
  rcases Nat.lt_or_ge ((tr o).getD M 0) 2147483648 with h | h
  · have a := Nat.mul_le_mul_right (W ^ M) (show (tr o).getD M 0 + 1 ≤ 2147483648 from h)
    omega
  · exact h

/-- at the head of the loop over the quotient's limbs: j are still to come -/
def QRel (Bo : Nat) (wb : World) (gu go_ N M j : Nat) (V U0 : Nat) (wr : World) : Prop :=
  ∃ L o : List Nat, L.length = N + 1 ∧ Dig W L ∧ o.length = N - M + 1 ∧ Dig W o ∧ nv W L + V * (W ^ j * nv W (o.drop j)) = U0 ∧ nv W (L.drop j) < V ∧
    UBu wr gu L ∧ OwnU wr Bo (some ⟨go_, 0, none⟩) (N - M + 1) (N - M + 1) (u32s o) ∧ Below gu wb wr
theorem kn_arith (b p x y z l : Nat) : l + p * x + p * b * y + p * b * b * z = ((z * b + y) * b + x) * p + l := by
  simp only [Nat.add_mul, Nat.mul_assoc]
  have c1 : p * (b * (b * z)) = z * (b * (b * p)) := by simp only [Nat.mul_comm, Nat.mul_left_comm]
  have c2 : p * (b * y) = y * (b * p) := by simp only [Nat.mul_comm, Nat.mul_left_comm]
  have c3 : p * x = x * p := Nat.mul_comm _ _
  omega
theorem kn_arith2 (b p x y l : Nat) : l + p * x + p * b * y = (y * b + x) * p + l := by
  simp only [Nat.add_mul, Nat.mul_assoc]
  have c2 : p * (b * y) = y * (b * p) := by simp only [Nat.mul_comm, Nat.mul_left_comm]
  have c3 : p * x = x * p := Nat.mul_comm _ _
  omega
/-- what digit is called with -/
theorem QRel.kn {L vl : List Nat} {N M k V : Nat} (hL : Dig W L) (hLl : L.length = N + 1) (hvl : Dig W vl) (hvlen : vl.length = M) (hM : 2 ≤ M) (hk : k + M + 1 ≤ N + 1) (hV : nv W vl = V) (htop : 2147483648 ≤ vl.getD (M - 1) 0) (hlt : nv W (L.drop (k + 1)) < V) :
    Kn W (L.getD (k + M) 0 * 4294967296 + L.getD (k + (M - 1)) 0) (L.getD (k + (M - 2)) 0) (nvp W (L.drop k) (M - 2)) (vl.getD (M - 1) 0) (vl.getD (M - 2) 0) (nvp W vl (M - 2)) (W ^ (M - 2)) (nvp W (L.drop k) (M + 1)) V ∧
      nv W (L.drop k) = nvp W (L.drop k) (M + 1) ∧ nv W (L.drop (k + M + 1)) = 0 := by
  have hVlt : V < W ^ M := by rw [← hV, ← hvlen]; exact nv_lt hvl
  have e0 := drop_nv W L (k := k) (by omega)
  have hz : nv W (L.drop (k + M + 1)) = 0 := by
    have := nv_drop_zero (b := W) (l := L.drop (k + 1)) (M := M) (by decide) (by omega) (by rw [List.length_drop]; omega)
    rwa [List.drop_drop, show k + 1 + M = k + M + 1 by omega] at this
  have hk0 : L.getD k 0 < 4294967296 := hL.getD (by decide) k
  have e1 : nv W (L.drop k) = nvp W (L.drop k) (M + 1) := by
    have := nv_split (b := W) (l := L.drop k) (k := M + 1) (by rw [List.length_drop]; omega)
    rw [List.drop_drop, show k + (M + 1) = k + M + 1 by omega, hz, Nat.mul_zero, Nat.add_zero] at this
    exact this
  obtain ⟨P, rfl⟩ : ∃ P, M = P + 2 := ⟨M - 2, by omega⟩
  simp only [Nat.add_sub_cancel, show P + 2 - 1 = P + 1 by omega] at *
  have a1 := nvp_succ W (L.drop k) P
  have a2 := nvp_succ W (L.drop k) (P + 1)
  have a3 := nvp_succ W (L.drop k) (P + 2)
  have b1 := nvp_succ W vl P
  have b2 := nvp_succ W vl (P + 1)
  rw [getD_drop] at a1 a2 a3
  rw [nvp_all (by omega), hV] at b2
  refine ⟨⟨?_, ?_, nvp_lt (hL.drop k) (by decide) P, nvp_lt hvl (by decide) P, hL.getD (by decide) _, hvl.getD (by decide) _, by omega, ?_⟩, e1, hz⟩
  · rw [a3, a2, a1, Nat.pow_succ, Nat.pow_succ]
    exact kn_arith W (W ^ P) _ _ _ _
  · rw [b2, b1, Nat.pow_succ]
    exact kn_arith2 W (W ^ P) _ _ _
  · rw [← e1, e0]
    have := Nat.mul_le_mul_left W (show nv W (L.drop (k + 1)) + 1 ≤ V from hlt)
    rw [Nat.mul_add] at this
    have hW : W * 1 = 4294967296 := rfl
    omega
theorem UB_far {t : TypeId} {w : World} {g : Nat} {L : List Nat} (h : UB t w g L) {p : Addr} (hp : g ≠ p.block) (u : Value) : UB t (w.setCell p u) g L := (Below.heap_setCell w p u g hp).trans h
theorem QRel.start {Bo : Nat} {wb wr : World} {gu go_ N M V U0 : Nat} {L : List Nat} (hL : Dig W L) (hLl : L.length = N + 1) (hU : nv W L = U0) (hlt : nv W (L.drop (N - M + 1)) < V) (hub : UBu wr gu L) (ho : OwnU wr Bo (some ⟨go_, 0, none⟩) (N - M + 1) (N - M + 1) (u32s (List.replicate (N - M + 1) 0))) (hb : Below gu wb wr) :
    QRel Bo wb gu go_ N M (N - M + 1) V U0 wr :=
  ⟨L, _, hLl, hL, by simp, Dig.replicate _ _ (by decide), by rw [List.drop_eq_nil_of_le (by rw [List.length_replicate]; exact Nat.le_refl _), nv_nil, Nat.mul_zero, Nat.mul_zero, Nat.add_zero]; exact hU, hlt, hub, ho, hb⟩
theorem QRel.use {Bo : Nat} {wb wr : World} {gu go_ N M k V U0 : Nat} {vl : List Nat} (h : QRel Bo wb gu go_ N M (k + 1) V U0 wr) (hkM : k + M ≤ N) (hM : 2 ≤ M) (hvl : Dig W vl) (hvlen : vl.length = M) (hV : nv W vl = V) (htop : 2147483648 ≤ vl.getD (M - 1) 0) (hgg : gu < go_) :
    ∃ L, UBu wr gu L ∧ Dig W L ∧ L.length = N + 1 ∧ Below gu wb wr ∧
      Kn W (L.getD (k + M) 0 * 4294967296 + L.getD (k + (M - 1)) 0) (L.getD (k + (M - 2)) 0) (nvp W (L.drop k) (M - 2)) (vl.getD (M - 1) 0) (vl.getD (M - 2) 0) (nvp W vl (M - 2)) (W ^ (M - 2)) (nvp W (L.drop k) (M + 1)) V ∧
      ∀ L2 w', RowSt wr gu k M L L2 w' → nvp W (L2.drop k) (M + 1) = nvp W (L.drop k) (M + 1) % V →
        (∃ u, w'.cell? ⟨go_, k, none⟩ = some u) ∧ w'.frozen? ⟨go_, k, none⟩ = false ∧ QRel Bo wb gu go_ N M k V U0 (w'.setCell ⟨go_, k, none⟩ (.int .u32 ((nvp W (L.drop k) (M + 1) / V : Nat) : Int))) := by
  obtain ⟨L, o, h1, h2, h3, h4, h5, h6, h7, h8, h9⟩ := h
  obtain ⟨hK, e1, e2⟩ := QRel.kn h2 h1 hvl hvlen hM (by omega) hV htop h6
  refine ⟨L, h7, h2, h1, h9, hK, ?_⟩
  rintro L2 w' ⟨r1, r2, r3, r4, r5, r6⟩ hr
  have hV0 : 0 < V := by omega
  have ho' : OwnU w' Bo (some ⟨go_, 0, none⟩) (N - M + 1) (N - M + 1) (u32s o) :=
    World.ownsRow.kept h8 r6 (.inr (by simp [Value.ownBlock]; omega))
  have hq : nvp W (L.drop k) (M + 1) / V < 4294967296 := Nat.div_lt_of_lt_mul (by have := hK.hUV; rwa [Nat.mul_comm] at this)
  refine ⟨⟨_, by rw [ho'.cell (by omega), u32s_get (by omega)]⟩, ho'.frozen k, L2, o.set k (nvp W (L.drop k) (M + 1) / V), by omega, r2, by simpa using h3, h4.set hq _, ?_, ?_, UB_far r5 (by simp; omega) _, ?_, (h9.trans (gb_below r6 (Nat.le_refl _) (Nat.le_of_lt h7.lt))).setCell (by simp; omega) _⟩
  · -- the sum
    have s1 := nv_split (b := W) (l := L) (k := k) (by omega)
    have s2 := nv_split (b := W) (l := L2) (k := k) (by omega)
    have s3 : nv W (L2.drop k) = nvp W (L2.drop k) (M + 1) := by
      have := nv_split (b := W) (l := L2.drop k) (k := M + 1) (by rw [List.length_drop]; omega)
      rw [List.drop_drop, show k + (M + 1) = k + M + 1 by omega, r4, e2, Nat.mul_zero, Nat.add_zero] at this
      exact this
    have e3 : (o.set k (nvp W (L.drop k) (M + 1) / V)).drop k = (nvp W (L.drop k) (M + 1) / V) :: o.drop (k + 1) := by
      rw [List.drop_eq_getElem_cons (by simp; omega), List.getElem_set_self, drop_set_hi (by omega)]
    rw [e3, nv_cons, s2, s3, hr, r3, Nat.mul_add, Nat.mul_add]
    rw [s1, e1] at h5
    have hdm := Nat.div_add_mod (nvp W (L.drop k) (M + 1)) V
    have h10 : W ^ k * (V * (nvp W (L.drop k) (M + 1) / V) + nvp W (L.drop k) (M + 1) % V) = W ^ k * nvp W (L.drop k) (M + 1) := by rw [hdm]
    rw [Nat.mul_add] at h10
    rw [Nat.pow_succ, Nat.mul_assoc (W ^ k)] at h5
    have h11 : V * (W ^ k * (nvp W (L.drop k) (M + 1) / V)) = W ^ k * (V * (nvp W (L.drop k) (M + 1) / V)) := Nat.mul_left_comm _ _ _
    omega
  · have s3 : nv W (L2.drop k) = nvp W (L2.drop k) (M + 1) := by
      have := nv_split (b := W) (l := L2.drop k) (k := M + 1) (by rw [List.length_drop]; omega)
      rw [List.drop_drop, show k + (M + 1) = k + M + 1 by omega, r4, e2, Nat.mul_zero, Nat.add_zero] at this
      exact this
    rw [s3, hr]; exact Nat.mod_lt _ hV0
  · have := ho'.set_ k (.int .u32 ((nvp W (L.drop k) (M + 1) / V : Nat) : Int))
    rwa [u32s_set] at this

/-- at the head of the loop that shifts the remainder back: the limbs below i are done -/
def DownRel (Bo : Nat) (wb : World) (gu go_ N M s i : Nat) (L o : List Nat) (wr : World) : Prop :=
  ∃ L3 : List Nat, L3.length = N + 1 ∧ Dig W L3 ∧ L3.drop i = L.drop i ∧ nvp W L3 i + W ^ i * (nv W (L.drop i) / 2 ^ s) = nv W L / 2 ^ s ∧
    UBu wr gu L3 ∧ OwnU wr Bo (some ⟨go_, 0, none⟩) (N - M + 1) (N - M + 1) (u32s o) ∧ Below gu wb wr
theorem DownRel.facts {Bo : Nat} {wb wr : World} {gu go_ N M s i : Nat} {L o : List Nat} (h : DownRel Bo wb gu go_ N M s i L o wr) (hs : s < 32) (hL : Dig W L) (hLl : L.length = N + 1) (hi : i < N) (hgg : gu < go_) :
    ∃ x y : Nat, x < 4294967296 ∧ y < 4294967296 ∧ wr.cell? ⟨gu, i, none⟩ = some (.int .u32 (x : Int)) ∧ wr.cell? ⟨gu, i + 1, none⟩ = some (.int .u32 (y : Int)) ∧ wr.frozen? ⟨gu, i, none⟩ = false ∧
      x / 2 ^ s + y * 2 ^ (32 - s) % 4294967296 < 4294967296 ∧
      DownRel Bo wb gu go_ N M s (i + 1) L o (wr.setCell ⟨gu, i, none⟩ (.int .u32 ((x / 2 ^ s + y * 2 ^ (32 - s) % 4294967296 : Nat) : Int))) := by
  obtain ⟨L3, h1, h2, h3, h4, h5, h6, h7⟩ := h
  have hx := getD_of_drop h3
  have hy := getD_of_drop (drop_more h3 (show i ≤ i + 1 by omega))
  have bx : L.getD i 0 < 4294967296 := hL.getD (by decide) i
  have by_ : L.getD (i + 1) 0 < 4294967296 := hL.getD (by decide) (i + 1)
  have hb : (4294967296 : Nat) = 2 ^ s * 2 ^ (32 - s) := by rw [← Nat.pow_add, show s + (32 - s) = 32 by omega]
  have hstep := down_step (b := W) (S := 2 ^ s) (D := 2 ^ (32 - s)) (x := L.getD i 0) (y := L.getD (i + 1) 0) (X := nv W (L.drop (i + 1))) (Y := nv W (L.drop (i + 2))) hb (Nat.pow_pos (by decide)) (drop_nv W L (by omega))
  have hnew : L.getD i 0 / 2 ^ s + L.getD (i + 1) 0 * 2 ^ (32 - s) % 4294967296 < 4294967296 := by
    have a1 : L.getD i 0 / 2 ^ s < 2 ^ (32 - s) := Nat.div_lt_of_lt_mul (by rw [← hb]; exact bx)
    have a2 : L.getD (i + 1) 0 * 2 ^ (32 - s) % 4294967296 = 2 ^ (32 - s) * (L.getD (i + 1) 0 % 2 ^ s) := by
      rw [hb, Nat.mul_comm (L.getD (i + 1) 0), Nat.mul_comm (2 ^ s), Nat.mul_mod_mul_left]
    have a3 : L.getD (i + 1) 0 % 2 ^ s < 2 ^ s := Nat.mod_lt _ (Nat.pow_pos (by decide))
    have a4 := Nat.mul_le_mul_left (2 ^ (32 - s)) (show L.getD (i + 1) 0 % 2 ^ s + 1 ≤ 2 ^ s from a3)
    rw [Nat.mul_add, Nat.mul_comm (2 ^ (32 - s)) (2 ^ s), ← hb] at a4
    rw [a2]
    omega
  refine ⟨L.getD i 0, L.getD (i + 1) 0, bx, by_, by rw [h5.cell (by omega), hx], by rw [h5.cell (by omega), hy], h5.frozen i, hnew, L3.set i (L.getD i 0 / 2 ^ s + L.getD (i + 1) 0 * 2 ^ (32 - s) % 4294967296), by simpa using h1, h2.set hnew _, ?_, ?_, h5.set_ _ _, h6.far ?_ _, h7.setCell (by simp) _⟩
  · rw [drop_set_hi (by omega)]; exact drop_more h3 (by omega)
  · rw [nvp_set_at (by omega), pow_succ_mul, ← h4, drop_nv W L (show i < L.length by omega), hstep, Nat.mul_add (W ^ i), Nat.add_assoc]
    congr 1
    rw [← Nat.mul_add, ← Nat.mul_add]
  · intro g hg
    injection hg with hg; injection hg with hg
    simp; omega
theorem lz_any (x : Nat) (w : World) (hx : x < 4294967296) :
    Calls Try.prog 100 #[.int .u32 (x : Int)] w fun e w' => e = .returned (.int .i64 ((32 - blen x : Nat) : Int)) ∧ w = w' :=
  (Try.bits_LeadingZeros32 (x : Int) w (by omega) (by omega)).mono fun e w' ⟨he, hw⟩ => ⟨by rw [he, Int.toNat_natCast, bitLen_blen x hx]; exact ret_int (by have := blen32 hx; omega), hw.symm⟩
theorem down_expr {s x y : Nat} (hs : s < 32) (hx : x < 4294967296) (hy : y < 4294967296) :
    bits .or .u32 ((x : Int) / 2 ^ s) (IntKind.u64.wrap ((y : Int) * 2 ^ (32 - s)) % 4294967296) = ((x / 2 ^ s + y * 2 ^ (32 - s) % 4294967296 : Nat) : Int) := by
  have hb : (4294967296 : Nat) = 2 ^ s * 2 ^ (32 - s) := by rw [← Nat.pow_add, show s + (32 - s) = 32 by omega]
  have h1 : x / 2 ^ s < 2 ^ (32 - s) := Nat.div_lt_of_lt_mul (by rw [← hb]; exact hx)
  have h2 : (2 : Nat) ^ (32 - s) ≤ 2 ^ 32 := Nat.pow_le_pow_right (by decide) (by omega)
  have h3 : y * 2 ^ (32 - s) ≤ 4294967295 * 2 ^ (32 - s) := Nat.mul_le_mul_right _ (by omega)
  have e1 : (x : Int) / 2 ^ s = ((x / 2 ^ s : Nat) : Int) := by simp
  have e2 : (y : Int) * 2 ^ (32 - s) = ((y * 2 ^ (32 - s) : Nat) : Int) := by simp
  rw [e1, e2, IntKind.wrap_u64, show ((y * 2 ^ (32 - s) : Nat) : Int) % 18446744073709551616 = ((y * 2 ^ (32 - s) : Nat) : Int) by omega]
  exact or_hi_lo_u32 _ _ (by omega) h1 (Nat.mul_mod_left _ _)
theorem DownRel.drew {Bo : Nat} {wb wr : World} {gu go_ N M s i : Nat} {L o : List Nat} (h : DownRel Bo wb gu go_ N M s i L o wr) : DownRel Bo wb gu go_ N M s i L o wr.drew := by
  obtain ⟨L3, h1, h2, h3, h4, h5, h6, h7⟩ := h
  exact ⟨L3, h1, h2, h3, h4, h5, h6, h7.drew⟩
end Go.Proofs.Ytggdmhkdmkldoaa
