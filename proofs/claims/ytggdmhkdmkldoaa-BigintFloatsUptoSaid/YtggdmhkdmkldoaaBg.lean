import Derived.Test.YtggdmhkdmkldoaaBf
namespace Go.Proofs.Ytggdmhkdmkldoaa
open Go.RowKit Hb

/-- a slice of the call's own whose limbs make v -/
def FreshN (w : World) (v bound : Nat) (e : Ending) (w' : World) : Prop :=
  ∃ out A n c, e = .returned (.slice A n c) ∧ OwnU w' w.heap.size A n c (u32s out) ∧ out.length = n ∧ Dig W out ∧ nv W out = v ∧ n ≤ bound ∧ Below w.heap.size w w'

/-- what holds at each head of add's loop -/
def AddRel (w : World) (l m : List Nat) (n k : Nat) (cv : Value) (wr : World) : Prop :=
  ∃ (o : List Nat) (c : Nat), cv = .int .u32 (c : Int) ∧ c ≤ 1 ∧ o.length = k ∧ Dig W o ∧ nv W o + W ^ k * c = nvp W l k + nvp W m k ∧
    OwnU wr w.heap.size (some ⟨w.heap.size, 0, none⟩) (n + 1) (n + 1) (u32s (o ++ List.replicate (n + 1 - k) 0)) ∧ Below w.heap.size w wr
theorem AddRel.start (w : World) (l m : List Nat) (n : Nat) (hn : n + 1 ≤ maxLen) : AddRel w l m n 0 (.int .u32 0) (w.alloc (.cells (madeCells #[.int .u32 0] (n + 1)) 48)) := by
  refine ⟨[], 0, rfl, by omega, rfl, Dig.nil _, by simp [nv, nvp_zero], ?_, (Below.refl _ _).alloc (Nat.le_refl _) _⟩
  have := Own.made w (.int .u32 0) (n + 1) 48 (B := w.heap.size) (Nat.le_refl _) hn
  rw [u32s_zeros] at this
  simpa using this
theorem AddRel.facts {w wr : World} {l m : List Nat} {n k : Nat} {cv : Value} (h : AddRel w l m n k cv wr) (hk : k ≤ n) :
    (∃ u, wr.cell? ⟨w.heap.size, k, none⟩ = some u) ∧ wr.frozen? ⟨w.heap.size, k, none⟩ = false := by
  obtain ⟨o, c, _, _, _, _, _, ho, _⟩ := h
  have h1 := ho.cell (j := k) (by omega)
  have h2 := ho.length
  rw [List.getElem?_eq_getElem (by omega)] at h1
  exact ⟨⟨_, h1⟩, ho.frozen k⟩
theorem AddRel.step {w wr : World} {l m : List Nat} {n k c : Nat} {x y : Nat} (h : AddRel w l m n k (.int .u32 (c : Int)) wr) (hk : k < n) (hx : l.getD k 0 = x) (hy : m.getD k 0 = y) (hl : Dig W l) (hm : Dig W m) :
    AddRel w l m n (k + 1) (.int .u32 (((x + y + c) / 4294967296 : Nat) : Int)) (wr.setCell ⟨w.heap.size, k, none⟩ (.int .u32 (((x + y + c) % 4294967296 : Nat) : Int))) := by
  obtain ⟨o, c', hc, hc1, hlen, hd, hv, ho, hb⟩ := h
  obtain rfl : c = c' := by injection hc with _ hc; omega
  have b1 := hl.getD (by decide) k
  have b2 := hm.getD (by decide) k
  subst hx; subst hy
  refine ⟨o ++ [(l.getD k 0 + m.getD k 0 + c) % 4294967296], (l.getD k 0 + m.getD k 0 + c) / 4294967296, rfl, ?_, by simp [hlen], hd.append (Dig.cons (Nat.mod_lt _ (by decide)) (Dig.nil _)), ?_, ?_, hb.setCell (Nat.le_refl _) _⟩
  · have : l.getD k 0 < 4294967296 := b1
    have : m.getD k 0 < 4294967296 := b2
    omega
  · rw [nv_snoc, nvp_succ, nvp_succ, hlen]
    exact add_step hv
  · have := ho.set_ k (.int .u32 (((l.getD k 0 + m.getD k 0 + c) % 4294967296 : Nat) : Int))
    rw [u32s_set, set_zeros' hlen (by omega)] at this
    exact this
theorem AddRel.end_ {w wr : World} {l m : List Nat} {n c : Nat} (h : AddRel w l m n n (.int .u32 (c : Int)) wr) (hl : l.length ≤ n) (hm : m.length ≤ n) :
    FreshN w (nv W l + nv W m) (n + 1) (.returned (.slice (some ⟨w.heap.size, 0, none⟩) (n + 1) (n + 1))) (wr.setCell ⟨w.heap.size, n, none⟩ (.int .u32 (c : Int))) := by
  obtain ⟨o, c', hc, hc1, hlen, hd, hv, ho, hb⟩ := h
  obtain rfl : c = c' := by injection hc with _ hc; omega
  have := ho.set_ n (.int .u32 (c : Int))
  rw [u32s_set, set_zeros' hlen (by omega), Nat.sub_self, List.replicate_zero, List.append_nil] at this
  refine ⟨_, _, _, _, rfl, this, by simp [hlen], hd.append (Dig.cons (Nat.lt_of_le_of_lt hc1 (by decide)) (Dig.nil _)), ?_, Nat.le_refl _, hb.setCell (Nat.le_refl _) _⟩
  rw [nv_snoc, hlen, hv, nvp_all hl, nvp_all hm]

theorem getD_out {l : List Nat} {k : Nat} (h : l.length ≤ k) : l.getD k 0 = 0 := by
  rw [List.getD_eq_getElem?_getD, List.getElem?_eq_none h]; rfl
set_option maxHeartbeats 1000000 in
theorem add_ge {B B' : Nat} {A A' : Option Addr} {l m : List Nat} {n c n' c' : Nat} {w : World} (hs : SlU w B A n c l) (ht : SlU w B' A' n' c' m) (hn : n ≤ 67108864) (hB : B ≤ w.heap.size) (hB' : B' ≤ w.heap.size) (hle : n' ≤ n) :
    Calls Try.prog 102 #[.slice A n c, .slice A' n' c'] w (FreshN w (nv W l + nv W m) (n + 1)) := by
  have hmk := fun w => by
    have h := makeU (n + 1) (by omega) w
    rw [show ((n + 1 : Nat) : Int) = (n : Int) + 1 from by omega] at h
    exact h
  have hd : decide (n < n') = false := decide_eq_false (by omega)
  have hd' : decide ((n : Int) < (n' : Int)) = false := decide_eq_false (by omega)
  have hst := Lib.hid (AddRel.start w l m n (by simp [maxLen]; omega))
  have hdl := Lib.hid hs.dig
  have hdm := Lib.hid ht.dig
  have hl1 := hs.len
  have hl2 := ht.len
  have HE := Lib.hid (fun (wr : World) (x : Nat) (h : AddRel w l m n n (.int .u32 (x : Int)) wr) => AddRel.end_ h (Nat.le_of_eq hl1) (by omega))
  have HX := Lib.hid (fun k (hk : n ≤ k) => getD_out (l := l) (k := k) (by omega))
  have HY := Lib.hid (fun k (hk : n' ≤ k) => getD_out (l := m) (k := k) (by omega))
  have HN := Lib.hid hn
  have hn9 : n ≤ 1000000000 := by omega
  clear hn hl1 hl2
  go_enter Try.func102, Try.ntmps102
  go_wp2_with fail
  go_loopw [6, 22] (fun cv i wr => ∃ k : Nat, k ≤ n ∧ i = .int .i64 k ∧ AddRel w l m n k cv wr) (fun _ i _ => n - (intOf i).toNat)
  case atStart => exact ⟨0, Nat.zero_le _, rfl, hst.out⟩
  case round =>
    obtain ⟨k, hk, rfl, hrel⟩ := hrel
    obtain ⟨⟨u, hcu⟩, hfz⟩ := hrel.facts hk
    have hrel2 := hrel
    obtain ⟨o, cc, rfl, hcc, _, _, _, _, hbel⟩ := hrel2
    have HR := Lib.hid hrel
    have HBl := Lib.hid hbel
    by_cases hkn : k < n
    · obtain ⟨b, off, hAe, hbb, hcell⟩ := hs.at_ (by omega)
      subst hAe
      have hx := ((hbel.cell (p := ⟨b, off + k, none⟩) (Nat.lt_of_lt_of_le hbb hB)).trans (hcell k hkn))
      have hxb := hdl.out.getD (by decide) k
      have hyb := hdm.out.getD (by decide) k
      have hk0 : (0 : Int) ≤ (k : Int) := by omega
      have hki : (k : Int) < (n : Int) := by omega
      have hki2 : (k : Int) < (n : Int) + 1 := by omega
      have HA := Lib.hid (fun w1 => add32_any (l.getD k 0) (m.getD k 0) cc w1 hxb hyb hcc)
      have HS := Lib.hid (HR.out.step (x := l.getD k 0) (y := m.getD k 0) hkn rfl rfl hdl.out hdm.out)
      clear hrel hbel hcell hst HE
      by_cases hkm : k < n'
      · obtain ⟨b2, off2, hAe, hbb2, hcell2⟩ := ht.at_ (by omega)
        subst hAe
        have hy := ((HBl.out.cell (p := ⟨b2, off2 + k, none⟩) (Nat.lt_of_lt_of_le hbb2 hB')).trans (hcell2 k hkm))
        clear hcell2 HX HY
        generalize l.getD k 0 = x at *
        generalize m.getD k 0 = y at *
        have hkmi : (k : Int) < (n' : Int) := by omega
        go_wp2_with (go_at_call 106; refine (HA.out _).mono ?_; rintro e w' ⟨rfl, rfl⟩)
        go_roundw
        case rel => exact ⟨k + 1, by omega, by go_num, HS.out⟩
        case measure => simp [intOf]; omega
      · have hY := HY.out k (by omega)
        rw [hY] at HA HS
        clear HX HY hY hyb
        generalize l.getD k 0 = x at *
        have hkmi : ¬ (k : Int) < (n' : Int) := by omega
        go_wp2_with (go_at_call 106; refine (HA.out _).mono ?_; rintro e w' ⟨rfl, rfl⟩)
        go_roundw
        case rel => exact ⟨k + 1, by omega, by go_num, HS.out⟩
        case measure => simp [intOf]; omega
    · obtain rfl : k = n := by omega
      have HF := Lib.hid (HE.out _ _ HR.out)
      have hki2 : (k : Int) < (k : Int) + 1 := by omega
      have hk0 : (0 : Int) ≤ (k : Int) := by omega
      clear hrel hbel hst HE HR
      go_wp2
      go_ret
      exact HF.out
set_option maxHeartbeats 1000000 in
theorem add_lt {B B' : Nat} {A A' : Option Addr} {l m : List Nat} {n c n' c' : Nat} {w : World} (hs : SlU w B A n c l) (ht : SlU w B' A' n' c' m) (hn : n' ≤ 67108864) (hB : B ≤ w.heap.size) (hB' : B' ≤ w.heap.size) (hle : n < n') :
    Calls Try.prog 102 #[.slice A n c, .slice A' n' c'] w (FreshN w (nv W m + nv W l) (n' + 1)) := by
  have hmk := fun w => by
    have h := makeU (n' + 1) (by omega) w
    rw [show ((n' + 1 : Nat) : Int) = (n' : Int) + 1 from by omega] at h
    exact h
  have hd : decide (n < n') = true := decide_eq_true (by omega)
  have hd' : decide ((n : Int) < (n' : Int)) = true := decide_eq_true (by omega)
  have hst := Lib.hid (AddRel.start w m l n' (by simp [maxLen]; omega))
  have hdl := Lib.hid ht.dig
  have hdm := Lib.hid hs.dig
  have hl1 := ht.len
  have hl2 := hs.len
  have HE := Lib.hid (fun (wr : World) (x : Nat) (h : AddRel w m l n' n' (.int .u32 (x : Int)) wr) => AddRel.end_ h (Nat.le_of_eq hl1) (by omega))
  have HX := Lib.hid (fun k (hk : n' ≤ k) => getD_out (l := m) (k := k) (by omega))
  have HY := Lib.hid (fun k (hk : n ≤ k) => getD_out (l := l) (k := k) (by omega))
  have HN := Lib.hid hn
  have hn9 : n' ≤ 1000000000 := by omega
  clear hn hl1 hl2
  go_enter Try.func102, Try.ntmps102
  go_wp2_with fail
  go_loopw [6, 22] (fun cv i wr => ∃ k : Nat, k ≤ n' ∧ i = .int .i64 k ∧ AddRel w m l n' k cv wr) (fun _ i _ => n' - (intOf i).toNat)
  case atStart => exact ⟨0, Nat.zero_le _, rfl, hst.out⟩
  case round =>
    obtain ⟨k, hk, rfl, hrel⟩ := hrel
    obtain ⟨⟨u, hcu⟩, hfz⟩ := hrel.facts hk
    have hrel2 := hrel
    obtain ⟨o, cc, rfl, hcc, _, _, _, _, hbel⟩ := hrel2
    have HR := Lib.hid hrel
    have HBl := Lib.hid hbel
    by_cases hkn : k < n'
    · obtain ⟨b, off, hAe, hbb, hcell⟩ := ht.at_ (by omega)
      subst hAe
      have hx := ((hbel.cell (p := ⟨b, off + k, none⟩) (Nat.lt_of_lt_of_le hbb hB')).trans (hcell k hkn))
      have hxb := hdl.out.getD (by decide) k
      have hyb := hdm.out.getD (by decide) k
      have hk0 : (0 : Int) ≤ (k : Int) := by omega
      have hki : (k : Int) < (n' : Int) := by omega
      have hki2 : (k : Int) < (n' : Int) + 1 := by omega
      have HA := Lib.hid (fun w1 => add32_any (m.getD k 0) (l.getD k 0) cc w1 hxb hyb hcc)
      have HS := Lib.hid (HR.out.step (x := m.getD k 0) (y := l.getD k 0) hkn rfl rfl hdl.out hdm.out)
      clear hrel hbel hcell hst HE
      by_cases hkm : k < n
      · obtain ⟨b2, off2, hAe, hbb2, hcell2⟩ := hs.at_ (by omega)
        subst hAe
        have hy := ((HBl.out.cell (p := ⟨b2, off2 + k, none⟩) (Nat.lt_of_lt_of_le hbb2 hB)).trans (hcell2 k hkm))
        clear hcell2 HX HY
        generalize m.getD k 0 = x at *
        generalize l.getD k 0 = y at *
        have hkmi : (k : Int) < (n : Int) := by omega
        go_wp2_with (go_at_call 106; refine (HA.out _).mono ?_; rintro e w' ⟨rfl, rfl⟩)
        go_roundw
        case rel => exact ⟨k + 1, by omega, by go_num, HS.out⟩
        case measure => simp [intOf]; omega
      · have hY := HY.out k (by omega)
        rw [hY] at HA HS
        clear HX HY hY hyb
        generalize m.getD k 0 = x at *
        have hkmi : ¬ (k : Int) < (n : Int) := by omega
        go_wp2_with (go_at_call 106; refine (HA.out _).mono ?_; rintro e w' ⟨rfl, rfl⟩)
        go_roundw
        case rel => exact ⟨k + 1, by omega, by go_num, HS.out⟩
        case measure => simp [intOf]; omega
    · obtain rfl : k = n' := by omega
      have HF := Lib.hid (HE.out _ _ HR.out)
      have hki2 : (k : Int) < (k : Int) + 1 := by omega
      have hk0 : (0 : Int) ≤ (k : Int) := by omega
      clear hrel hbel hst HE HR
      go_wp2
      go_ret
      exact HF.out
theorem add_any {B B' : Nat} {A A' : Option Addr} {l m : List Nat} {n c n' c' : Nat} {w : World} (hs : SlU w B A n c l) (ht : SlU w B' A' n' c' m) (hn : n ≤ 67108864) (hn' : n' ≤ 67108864) (hB : B ≤ w.heap.size) (hB' : B' ≤ w.heap.size) :
    Calls Try.prog 102 #[.slice A n c, .slice A' n' c'] w (FreshN w (nv W l + nv W m) (max n n' + 1)) := by
  rcases Nat.lt_or_ge n n' with h | h
  · rw [Nat.add_comm, Nat.max_eq_right (by omega)]; exact add_lt hs ht hn' hB hB' h
  · rw [Nat.max_eq_left h]; exact add_ge hs ht hn hB hB' h
end Go.Proofs.Ytggdmhkdmkldoaa
