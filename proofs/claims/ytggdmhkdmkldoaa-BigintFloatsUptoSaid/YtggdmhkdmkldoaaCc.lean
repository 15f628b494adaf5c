import Derived.Test.YtggdmhkdmkldoaaCb
namespace Go.Proofs.Ytggdmhkdmkldoaa
open Go.RowKit Hb

/-! ### digits of a text -/
def pval (r : Nat) (ds : List Nat) : Nat := ds.foldl (fun a d => a * r + d) 0
theorem pval_snoc (r : Nat) (ds : List Nat) (d : Nat) : pval r (ds ++ [d]) = pval r ds * r + d := by simp [pval]
theorem pval_le_go (r : Nat) (hr : 1 ≤ r) (ds : List Nat) : ∀ a, a ≤ ds.foldl (fun a d => a * r + d) a := by
  induction ds with
  | nil => intro a; exact Nat.le_refl _
  | cons d ds ih =>
    intro a
    have h := ih (a * r + d)
    have : a ≤ a * r := Nat.le_mul_of_pos_right a hr
    exact Nat.le_trans (by omega) h
theorem pval_append (r : Nat) (ds es : List Nat) : pval r (ds ++ es) = es.foldl (fun a d => a * r + d) (pval r ds) := by simp [pval]
theorem pval_take_le {r : Nat} (hr : 1 ≤ r) (ds : List Nat) (k : Nat) : pval r (ds.take k) ≤ pval r ds := by
  conv => rhs; rw [← List.take_append_drop k ds]
  rw [pval_append]
  exact pval_le_go r hr _ _
theorem pval_take_succ (r : Nat) (ds : List Nat) {k : Nat} (h : k < ds.length) : pval r (ds.take (k + 1)) = pval r (ds.take k) * r + ds.getD k 0 := by
  rw [List.take_succ_eq_append_getElem h, pval_snoc, getD_eq h]
/-- a text's digits' values -/
def sdig (s : List UInt8) : List Nat := s.map fun c => dval c.toNat
theorem nrm_of_ge {l : List Nat} (hd : Dig W l) (h : l ≠ [] → W ^ (l.length - 1) ≤ nv W l) : Nrm l := by
  refine nrm_of_getD fun hl => ?_
  intro h0
  have h1 := h hl
  have hlen : 0 < l.length := List.length_pos_iff.2 hl
  have h2 : nv W l = nv W (l.take (l.length - 1)) := by
    have := take_succ_nv W l (k := l.length - 1) (by omega)
    rw [h0, Nat.mul_zero, Nat.add_zero, show l.length - 1 + 1 = l.length by omega, List.take_length] at this
    exact this
  have h3 := nv_lt (hd.take (l.length - 1))
  rw [List.length_take, Nat.min_eq_left (by omega)] at h3
  omega
theorem nrm_snoc {l : List Nat} {c : Nat} (hc : c ≠ 0) : Nrm (l ++ [c]) := by
  intro h; simpa using hc
theorem nrm_len {l : List Nat} (hn : Nrm l) {k : Nat} (h : nv W l < W ^ k) : l.length ≤ k := by
  by_cases hl : l = []
  · simp [hl]
  · have h1 := nv_ge (b := W) hn hl
    have := pow_lt_pow' (b := W) (by decide) (Nat.lt_of_le_of_lt h1 h)
    have hlen : 0 < l.length := List.length_pos_iff.2 hl
    omega

/-- at the head of the outer loop -/
def PRel (W0 : World) (r : Nat) (ds : List Nat) (i : Nat) (lv : Value) (wr : World) : Prop :=
  ∃ A n c l, lv = .slice A n c ∧ OwnU wr W0.heap.size A n c (u32s l) ∧ l.length = n ∧ n ≤ 128 ∧ Dig W l ∧ Nrm l ∧ nv W l = pval r (ds.take i) ∧ nv W l < 2 ^ 4096 ∧ Below W0.heap.size W0 wr
/-- at the head of the inner one -/
def PIn (W0 : World) (A : Option Addr) (n c : Nat) (l : List Nat) (r d k : Nat) (cv : Value) (wr : World) : Prop :=
  ∃ (o : List Nat) (cy : Nat), cv = .int .u64 (cy : Int) ∧ cy < 4294967296 ∧ o.length = n ∧ Dig W o ∧ (∀ j, k ≤ j → o.getD j 0 = l.getD j 0) ∧ nv W o + W ^ k * cy + nvp W l k = nvp W l k * r + d + nv W l ∧
    OwnU wr W0.heap.size A n c (u32s o) ∧ Below W0.heap.size W0 wr
theorem PIn.start {W0 wr : World} {A : Option Addr} {n c : Nat} {l : List Nat} {r d : Nat} (ho : OwnU wr W0.heap.size A n c (u32s l)) (hl : l.length = n) (hd : Dig W l) (hb : Below W0.heap.size W0 wr) (hd9 : d < 4294967296) :
    PIn W0 A n c l r d 0 (.int .u64 (d : Int)) wr :=
  ⟨l, d, rfl, hd9, hl, hd, fun _ _ => rfl, by rw [nvp_zero]; simp; omega, ho, hb⟩
theorem par_lt {x r c : Nat} (hx : x < 4294967296) (hr : r ≤ 36) (hc : c < 4294967296) : x * r ≤ 154618822620 ∧ (x * r + c) / 4294967296 < 4294967296 := by
  have h : x * r ≤ 4294967295 * 36 := Nat.mul_le_mul (by omega) hr
  omega
theorem PIn.facts {W0 wr : World} {g n c : Nat} {l : List Nat} {r d k : Nat} {cv : Value} (h : PIn W0 (some ⟨g, 0, none⟩) n c l r d k cv wr) (hk : k < n) (hr : r ≤ 36) (hl : Dig W l) :
    ∃ cy : Nat, cv = .int .u64 (cy : Int) ∧ cy < 4294967296 ∧ wr.cell? ⟨g, k, none⟩ = some (.int .u32 (l.getD k 0 : Nat)) ∧ wr.frozen? ⟨g, k, none⟩ = false ∧
      PIn W0 (some ⟨g, 0, none⟩) n c l r d (k + 1) (.int .u64 (((l.getD k 0 * r + cy) / 4294967296 : Nat) : Int)) (wr.setCell ⟨g, k, none⟩ (.int .u32 (((l.getD k 0 * r + cy) % 4294967296 : Nat) : Int))) := by
  obtain ⟨o, cy, rfl, h1, h2, h3, h4, h5, h6, h7⟩ := h
  have hx : l.getD k 0 < 4294967296 := hl.getD (by decide) k
  obtain ⟨g1, g2⟩ := par_lt hx hr h1
  have hB : W0.heap.size ≤ g := by
    obtain ⟨g', e, h8, _⟩ := Own.at_ h6 (by omega)
    injection e with e; injection e with e; omega
  refine ⟨cy, rfl, h1, by rw [Own.cell h6 hk, u32s_get (by omega), h4 k (Nat.le_refl _)], Own.frozen h6 k, ?_⟩
  refine ⟨o.set k ((l.getD k 0 * r + cy) % 4294967296), _, rfl, g2, by simpa using h2, h3.set (Nat.mod_lt _ (by decide)) _, fun j hj => ?_, ?_, ?_, h7.setCell hB _⟩
  · rw [lget_set_ne (by omega)]; exact h4 j (by omega)
  · have e1 := nv_set W (l := o) (p := k) (by omega) ((l.getD k 0 * r + cy) % 4294967296)
    rw [h4 k (Nat.le_refl _)] at e1
    rw [nvp_succ, pow_succ_mul]
    have e2 : W ^ k * ((l.getD k 0 * r + cy) % 4294967296) + W ^ k * (W * ((l.getD k 0 * r + cy) / 4294967296)) = W ^ k * (l.getD k 0 * r) + W ^ k * cy := by
      rw [← Nat.mul_add, ← Nat.mul_add]
      congr 1
      exact Nat.mod_add_div _ _
    rw [Nat.add_mul, Nat.mul_assoc (W ^ k)]
    omega
  · have := Own.set_ h6 k (.int .u32 (((l.getD k 0 * r + cy) % 4294967296 : Nat) : Int))
    rwa [u32s_set] at this
theorem PIn.done {W0 wr : World} {A : Option Addr} {n c : Nat} {l : List Nat} {r d : Nat} {cv : Value} (h : PIn W0 A n c l r d n cv wr) (hl : l.length = n) :
    ∃ (o : List Nat) (cy : Nat), cv = .int .u64 (cy : Int) ∧ cy < 4294967296 ∧ o.length = n ∧ Dig W o ∧ nv W o + W ^ n * cy = nv W l * r + d ∧ OwnU wr W0.heap.size A n c (u32s o) ∧ Below W0.heap.size W0 wr := by
  obtain ⟨o, cy, rfl, h1, h2, h3, h4, h5, h6, h7⟩ := h
  rw [nvp_all (Nat.le_of_eq hl)] at h5
  exact ⟨o, cy, rfl, h1, h2, h3, by omega, h6, h7⟩
/-- behind the inner loop, without a carry: the same limbs -/
theorem PRel.stay {W0 wr : World} {A : Option Addr} {n c : Nat} {l o : List Nat} {r i : Nat} {ds : List Nat} (hi : i < ds.length) (hn : n ≤ 128) (hln : l.length = n) (hnl : Nrm l) (hv : nv W l = pval r (ds.take i)) (hr : 1 ≤ r)
    (h1 : o.length = n) (h2 : Dig W o) (h3 : nv W o + W ^ n * 0 = nv W l * r + ds.getD i 0) (h4 : OwnU wr W0.heap.size A n c (u32s o)) (h5 : Below W0.heap.size W0 wr) :
    nv W o = pval r (ds.take (i + 1)) ∧ (nv W o < 2 ^ 4096 → PRel W0 r ds (i + 1) (.slice A n c) wr) := by
  have e : nv W o = pval r (ds.take (i + 1)) := by rw [pval_take_succ r ds hi, ← hv, ← h3]; simp
  refine ⟨e, fun hlt => ⟨A, n, c, o, rfl, h4, h1, hn, h2, nrm_of_ge h2 fun hne => ?_, e, hlt, h5⟩⟩
  have hl0 : l ≠ [] := by
    intro e; rw [e] at hln; simp at hln
    exact hne (List.length_eq_zero_iff.1 (by omega))
  have h6 := nv_ge (b := W) hnl hl0
  have h7 : nv W l ≤ nv W l * r := Nat.le_mul_of_pos_right _ hr
  rw [h1, ← hln]
  omega
/-- with a carry: one limb more -/
theorem PRel.more {W0 wr : World} {A : Option Addr} {n c : Nat} {l o : List Nat} {r i cy : Nat} {ds : List Nat} (hi : i < ds.length) (hv : nv W l = pval r (ds.take i)) (hcy : cy ≠ 0) (hcy4 : cy < 4294967296)
    (h1 : o.length = n) (h2 : Dig W o) (h3 : nv W o + W ^ n * cy = nv W l * r + ds.getD i 0) (h4 : OwnU wr W0.heap.size A (n + 1) c (u32s (o ++ [cy]))) (h5 : Below W0.heap.size W0 wr) :
    nv W (o ++ [cy]) = pval r (ds.take (i + 1)) ∧ (nv W (o ++ [cy]) < 2 ^ 4096 → PRel W0 r ds (i + 1) (.slice A (n + 1) c) wr) := by
  have e : nv W (o ++ [cy]) = pval r (ds.take (i + 1)) := by rw [pval_take_succ r ds hi, ← hv, ← h3, nv_snoc, h1]
  have hl : (o ++ [cy]).length = n + 1 := by simp [h1]
  refine ⟨e, fun hlt => ⟨A, n + 1, c, o ++ [cy], rfl, h4, hl, ?_, h2.append (Dig.cons hcy4 (Dig.nil _)), nrm_snoc hcy, e, hlt, h5⟩⟩
  have := nrm_len (k := 128) (nrm_snoc (l := o) hcy) (by rw [W128]; exact hlt)
  omega
end Go.Proofs.Ytggdmhkdmkldoaa
