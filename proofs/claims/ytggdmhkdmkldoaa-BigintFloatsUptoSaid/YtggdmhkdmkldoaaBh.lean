import Derived.Test.YtggdmhkdmkldoaaBg
namespace Go.Proofs.Ytggdmhkdmkldoaa
open Go.RowKit Hb

def SubRel (w : World) (l m : List Nat) (n k : Nat) (cv : Value) (wr : World) : Prop :=
  ∃ (o : List Nat) (c : Nat), cv = .int .u32 (c : Int) ∧ c ≤ 1 ∧ o.length = k ∧ Dig W o ∧ nv W o + nvp W m k = nvp W l k + W ^ k * c ∧
    OwnU wr w.heap.size (some ⟨w.heap.size, 0, none⟩) n n (u32s (o ++ List.replicate (n - k) 0)) ∧ Below w.heap.size w wr
theorem SubRel.start (w : World) (l m : List Nat) (n : Nat) (hn : n ≤ maxLen) : SubRel w l m n 0 (.int .u32 0) (w.alloc (.cells (madeCells #[.int .u32 0] n) 48)) := by
  refine ⟨[], 0, rfl, by omega, rfl, Dig.nil _, by simp [nv, nvp_zero], ?_, (Below.refl _ _).alloc (Nat.le_refl _) _⟩
  have := Own.made w (.int .u32 0) n 48 (B := w.heap.size) (Nat.le_refl _) hn
  rw [u32s_zeros] at this
  simpa using this
theorem SubRel.facts {w wr : World} {l m : List Nat} {n k : Nat} {cv : Value} (h : SubRel w l m n k cv wr) (hk : k < n) :
    (∃ u, wr.cell? ⟨w.heap.size, k, none⟩ = some u) ∧ wr.frozen? ⟨w.heap.size, k, none⟩ = false := by
  obtain ⟨o, c, _, _, _, _, _, ho, _⟩ := h
  have h1 := ho.cell (j := k) (by omega)
  have h2 := ho.length
  rw [List.getElem?_eq_getElem (by omega)] at h1
  exact ⟨⟨_, h1⟩, ho.frozen k⟩
theorem SubRel.step {w wr : World} {l m : List Nat} {n k c : Nat} {x y : Nat} (h : SubRel w l m n k (.int .u32 (c : Int)) wr) (hk : k < n) (hx : l.getD k 0 = x) (hy : m.getD k 0 = y) (hl : Dig W l) (hm : Dig W m) :
    SubRel w l m n (k + 1) (.int .u32 ((brw x y c : Nat) : Int)) (wr.setCell ⟨w.heap.size, k, none⟩ (.int .u32 (((x + 4294967296 - y - c) % 4294967296 : Nat) : Int))) := by
  obtain ⟨o, c', hc, hc1, hlen, hd, hv, ho, hb⟩ := h
  obtain rfl : c = c' := by injection hc with _ hc; omega
  have b1 : l.getD k 0 < 4294967296 := hl.getD (by decide) k
  have b2 : m.getD k 0 < 4294967296 := hm.getD (by decide) k
  subst hx; subst hy
  have hs := brw_spec (l.getD k 0) (m.getD k 0) c
  refine ⟨o ++ [(l.getD k 0 + 4294967296 - m.getD k 0 - c) % 4294967296], brw (l.getD k 0) (m.getD k 0) c, rfl, by omega, by simp [hlen], hd.append (Dig.cons (Nat.mod_lt _ (by decide)) (Dig.nil _)), ?_, ?_, hb.setCell (Nat.le_refl _) _⟩
  · rw [nv_snoc, nvp_succ, nvp_succ, hlen]
    refine sub_step hv ?_
    show (l.getD k 0 + 4294967296 - m.getD k 0 - c) % 4294967296 + m.getD k 0 + c = l.getD k 0 + 4294967296 * brw (l.getD k 0) (m.getD k 0) c
    omega
  · have := ho.set_ k (.int .u32 (((l.getD k 0 + 4294967296 - m.getD k 0 - c) % 4294967296 : Nat) : Int))
    rw [u32s_set, set_zeros' hlen (by omega)] at this
    exact this
theorem SubRel.end_ {w wr : World} {l m : List Nat} {n : Nat} {cv : Value} (h : SubRel w l m n n cv wr) (hl : l.length ≤ n) (hm : m.length ≤ n) (hle : nv W m ≤ nv W l) :
    FreshN w (nv W l - nv W m) n (.returned (.slice (some ⟨w.heap.size, 0, none⟩) n n)) wr := by
  obtain ⟨o, c, hc, hc1, hlen, hd, hv, ho, hb⟩ := h
  rw [Nat.sub_self, List.replicate_zero, List.append_nil] at ho
  rw [nvp_all hl, nvp_all hm] at hv
  have hlt := nv_lt hd
  rw [hlen] at hlt
  have h0 : c = 0 := by
    rcases Nat.eq_zero_or_pos c with h | h
    · exact h
    · obtain rfl : c = 1 := by omega
      rw [Nat.mul_one] at hv; omega
  subst h0
  exact ⟨_, _, _, _, rfl, ho, hlen, hd, by omega, Nat.le_refl _, hb⟩

set_option maxHeartbeats 1000000 in
theorem sub_any {B B' : Nat} {A A' : Option Addr} {l m : List Nat} {n c n' c' : Nat} {w : World} (hs : SlU w B A n c l) (ht : SlU w B' A' n' c' m) (hn : n ≤ 67108864) (hB : B ≤ w.heap.size) (hB' : B' ≤ w.heap.size) (hle : n' ≤ n) (hv : nv W m ≤ nv W l) :
    Calls Try.prog 103 #[.slice A n c, .slice A' n' c'] w (FreshN w (nv W l - nv W m) n) := by
  have hmk := makeU n (by omega)
  have hst := Lib.hid (SubRel.start w l m n (by simp [maxLen]; omega))
  have hdl := Lib.hid hs.dig
  have hdm := Lib.hid ht.dig
  have hl1 := hs.len
  have hl2 := ht.len
  have HE := Lib.hid (fun (wr : World) (cv : Value) (h : SubRel w l m n n cv wr) => SubRel.end_ h (Nat.le_of_eq hl1) (by omega) hv)
  have HY := Lib.hid (fun k (hk : n' ≤ k) => getD_out (l := m) (k := k) (by omega))
  have hn9 : n ≤ 1000000000 := by omega
  clear hn hl1 hl2 hv
  go_enter Try.func103, Try.ntmps103
  go_wp2_with fail
  go_loopw [6, 14] (fun cv i wr => ∃ k : Nat, k ≤ n ∧ i = .int .i64 k ∧ SubRel w l m n k cv wr) (fun _ i _ => n - (intOf i).toNat)
  case atStart => exact ⟨0, Nat.zero_le _, rfl, hst.out⟩
  case round =>
    obtain ⟨k, hk, rfl, hrel⟩ := hrel
    have HR := Lib.hid hrel
    by_cases hkn : k < n
    · obtain ⟨⟨u, hcu⟩, hfz⟩ := hrel.facts hkn
      obtain ⟨o, cc, rfl, hcc, _, _, _, _, hbel⟩ := hrel
      have HBl := Lib.hid hbel
      obtain ⟨b, off, hAe, hbb, hcell⟩ := hs.at_ (by omega)
      subst hAe
      have hx := ((hbel.cell (p := ⟨b, off + k, none⟩) (Nat.lt_of_lt_of_le hbb hB)).trans (hcell k hkn))
      have hxb := hdl.out.getD (by decide) k
      have hyb := hdm.out.getD (by decide) k
      have hk0 : (0 : Int) ≤ (k : Int) := by omega
      have hki : (k : Int) < (n : Int) := by omega
      have HA := Lib.hid (fun w1 => sub32_any (l.getD k 0) (m.getD k 0) cc w1 hxb hyb hcc)
      have HS := Lib.hid (HR.out.step (x := l.getD k 0) (y := m.getD k 0) hkn rfl rfl hdl.out hdm.out)
      clear hbel hcell hst HE
      by_cases hkm : k < n'
      · obtain ⟨b2, off2, hAe, hbb2, hcell2⟩ := ht.at_ (by omega)
        subst hAe
        have hy := ((HBl.out.cell (p := ⟨b2, off2 + k, none⟩) (Nat.lt_of_lt_of_le hbb2 hB')).trans (hcell2 k hkm))
        clear hcell2 HY
        generalize l.getD k 0 = x at *
        generalize m.getD k 0 = y at *
        have hkmi : (k : Int) < (n' : Int) := by omega
        go_wp2_with (go_at_call 110; refine (HA.out _).mono ?_; rintro e w' ⟨rfl, rfl⟩)
        go_roundw
        case rel => exact ⟨k + 1, by omega, by go_num, HS.out⟩
        case measure => simp [intOf]; omega
      · have hY := HY.out k (by omega)
        rw [hY] at HA HS
        clear HY hY hyb
        generalize l.getD k 0 = x at *
        have hkmi : ¬ (k : Int) < (n' : Int) := by omega
        go_wp2_with (go_at_call 110; refine (HA.out _).mono ?_; rintro e w' ⟨rfl, rfl⟩)
        go_roundw
        case rel => exact ⟨k + 1, by omega, by go_num, HS.out⟩
        case measure => simp [intOf]; omega
    · obtain rfl : k = n := by omega
      have HF := Lib.hid (HE.out _ _ HR.out)
      clear hrel hst HE HR
      go_wp2
      go_ret
      exact HF.out
end Go.Proofs.Ytggdmhkdmkldoaa
