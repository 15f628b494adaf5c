import Derived.Test.YtggdmhkdmkldoaaBm
namespace Go.Proofs.Ytggdmhkdmkldoaa
open Go.RowKit Hb

/-- at the head of the outer loop -/
def MulRel (w : World) (l m : List Nat) (N M i : Nat) (wr : World) : Prop :=
  ∃ o : List Nat, o.length = N + M ∧ Dig W o ∧ (∀ j, i + M ≤ j → o.getD j 0 = 0) ∧ nv W o = nvp W l i * nv W m ∧
    OwnU wr w.heap.size (some ⟨w.heap.size, 0, none⟩) (N + M) (N + M) (u32s o) ∧ Below w.heap.size w wr
/-- at the head of the inner one -/
def MulIn (w : World) (l m : List Nat) (N M i k : Nat) (cv : Value) (wr : World) : Prop :=
  ∃ (o : List Nat) (c : Nat), cv = .int .u64 (c : Int) ∧ c < 4294967296 ∧ o.length = N + M ∧ Dig W o ∧ (∀ j, i + M ≤ j → o.getD j 0 = 0) ∧
    nv W o + W ^ (i + k) * c = nvp W l i * nv W m + W ^ i * (l.getD i 0 * nvp W m k) ∧
    OwnU wr w.heap.size (some ⟨w.heap.size, 0, none⟩) (N + M) (N + M) (u32s o) ∧ Below w.heap.size w wr
theorem MulRel.start (w : World) (l m : List Nat) (N M : Nat) (hn : N + M ≤ maxLen) : MulRel w l m N M 0 (w.alloc (.cells (madeCells #[.int .u32 0] (N + M)) 48)) := by
  refine ⟨List.replicate (N + M) 0, by simp, Dig.replicate _ _ (by decide), fun j _ => ?_, by rw [nv_replicate, nvp_zero, Nat.zero_mul], ?_, (Below.refl _ _).alloc (Nat.le_refl _) _⟩
  · rw [List.getD_eq_getElem?_getD, List.getElem?_replicate]; split <;> rfl
  · have := Own.made w (.int .u32 0) (N + M) 48 (B := w.heap.size) (Nat.le_refl _) hn
    rwa [u32s_zeros] at this
theorem MulRel.enter {w wr : World} {l m : List Nat} {N M i : Nat} (h : MulRel w l m N M i wr) : MulIn w l m N M i 0 (.int .u64 0) wr := by
  obtain ⟨o, h1, h2, h3, h4, h5, h6⟩ := h
  exact ⟨o, 0, rfl, by omega, h1, h2, h3, by rw [nvp_zero]; simpa using h4, h5, h6⟩
theorem MulIn.facts {w wr : World} {l m : List Nat} {N M i k : Nat} {cv : Value} (h : MulIn w l m N M i k cv wr) :
    ∃ c : Nat, cv = .int .u64 (c : Int) ∧ c < 4294967296 ∧ Below w.heap.size w wr ∧
      ∀ p, p < N + M → ∃ d : Nat, d < 4294967296 ∧ wr.cell? ⟨w.heap.size, p, none⟩ = some (.int .u32 (d : Int)) ∧ wr.frozen? ⟨w.heap.size, p, none⟩ = false ∧ (i + M ≤ p → d = 0) ∧
        (p = i + k → ∀ x y, l.getD i 0 = x → m.getD k 0 = y → k < M → Dig W l → Dig W m →
          MulIn w l m N M i (k + 1) (.int .u64 (((x * y + d + c) / 4294967296 : Nat) : Int)) (wr.setCell ⟨w.heap.size, p, none⟩ (.int .u32 (((x * y + d + c) % 4294967296 : Nat) : Int)))) ∧
        (p = i + M → k = M → m.length ≤ M → MulRel w l m N M (i + 1) (wr.setCell ⟨w.heap.size, p, none⟩ (.int .u32 (c : Int)))) := by
  obtain ⟨o, c, rfl, hc, h1, h2, h3, h4, h5, h6⟩ := h
  refine ⟨c, rfl, hc, h6, fun p hp => ⟨o.getD p 0, h2.getD (by decide) p, ?_, h5.frozen p, h3 p, ?_, ?_⟩⟩
  · rw [h5.cell hp, u32s_get (by omega)]
  · rintro rfl x y rfl rfl hk hl hm
    have b1 : l.getD i 0 < 4294967296 := hl.getD (by decide) i
    have b2 : m.getD k 0 < 4294967296 := hm.getD (by decide) k
    have b3 : o.getD (i + k) 0 < 4294967296 := h2.getD (by decide) (i + k)
    obtain ⟨hq, hlt⟩ := mul_lt b1 b2 b3 hc
    refine ⟨o.set (i + k) ((l.getD i 0 * m.getD k 0 + o.getD (i + k) 0 + c) % 4294967296), _, rfl, hlt, by simpa using h1, h2.set (Nat.mod_lt _ (by decide)) _, fun j hj => ?_, ?_, ?_, h6.setCell (Nat.le_refl _) _⟩
    · rw [lget_set_ne (by omega)]; exact h3 j hj
    · have := mul_step (b := W) (t := l.getD i 0 * m.getD k 0 + o.getD (i + k) 0 + c) (nv_set W (l := o) (p := i + k) (by omega) _) rfl h4
      rw [← Nat.add_assoc i k 1]
      refine this.trans ?_
      rw [nvp_succ, Nat.mul_add, Nat.mul_add, Nat.pow_add, ← Nat.add_assoc]
      congr 1
      rw [Nat.mul_assoc, Nat.mul_left_comm (l.getD i 0)]
    · have := h5.set_ (i + k) (.int .u32 (((l.getD i 0 * m.getD k 0 + o.getD (i + k) 0 + c) % 4294967296 : Nat) : Int))
      rwa [u32s_set] at this
  · rintro rfl rfl hm
    refine ⟨o.set (i + k) c, by simpa using h1, h2.set hc _, fun j hj => ?_, ?_, ?_, h6.setCell (Nat.le_refl _) _⟩
    · rw [lget_set_ne (by omega)]; exact h3 j (by omega)
    · have h7 := nv_set W (l := o) (p := i + k) (by omega) c
      rw [h3 (i + k) (Nat.le_refl _), Nat.mul_zero, Nat.add_zero, h4, nvp_all hm] at h7
      rw [h7, nvp_succ, Nat.add_mul, Nat.mul_assoc]
    · have := h5.set_ (i + k) (.int .u32 (c : Int))
      rwa [u32s_set] at this
theorem MulRel.end_ {w wr : World} {l m : List Nat} {N M : Nat} (h : MulRel w l m N M N wr) (hl : l.length ≤ N) :
    FreshN w (nv W l * nv W m) (N + M) (.returned (.slice (some ⟨w.heap.size, 0, none⟩) (N + M) (N + M))) wr := by
  obtain ⟨o, h1, h2, h3, h4, h5, h6⟩ := h
  exact ⟨_, _, _, _, rfl, h5, h1, h2, by rw [h4, nvp_all hl], Nat.le_refl _, h6⟩
theorem MulRel.below {w wr : World} {l m : List Nat} {N M i : Nat} (h : MulRel w l m N M i wr) : Below w.heap.size w wr := by
  obtain ⟨o, h1, h2, h3, h4, h5, h6⟩ := h
  exact h6

set_option maxHeartbeats 2000000 in
theorem mul_any {B B' : Nat} {A A' : Option Addr} {l m : List Nat} {n c n' c' : Nat} {w : World} (hs : SlU w B A n c l) (ht : SlU w B' A' n' c' m) (hn : n + n' ≤ 67108864) (hB : B ≤ w.heap.size) (hB' : B' ≤ w.heap.size) :
    Calls Try.prog 84 #[.slice A n c, .slice A' n' c'] w (FreshN w (nv W l * nv W m) (tlen l + tlen m)) := by
  have H1 := Lib.hid (trim_any hs)
  have H2 := Lib.hid (trim_any ht)
  have hl1 := tlen_le l
  have hl2 := tlen_le m
  have hl3 := hs.len
  have hl4 := ht.len
  rw [← nv_tr W l, ← nv_tr W m]
  have h3 := hs.tr
  have h4 := ht.tr
  generalize tr l = l' at *
  generalize tr m = m' at *
  generalize tlen l = N at *
  generalize tlen m = M at *
  clear hs ht
  have e3 := h3.len
  have e4 := h4.len
  have hNM : N + M ≤ 1000000000 := by omega
  have hmk := fun w => by
    have h := makeU (N + M) (by omega) w
    rw [show ((N + M : Nat) : Int) = (N : Int) + M from by omega] at h
    exact h
  have hst := Lib.hid (MulRel.start w l' m' N M (by simp [maxLen]; omega))
  have hdl := Lib.hid h3.dig
  have hdm := Lib.hid h4.dig
  have HE := Lib.hid (fun wr (h : MulRel w l' m' N M N wr) => h.end_ (by omega))
  have HM := Lib.hid (show m'.length ≤ M by omega)
  clear hl1 hl2 hl3 hl4 hn e3 e4
  go_enter Try.func84, Try.ntmps84
  go_wp2_with fail
  refine H1.out.mono ?_; rintro e w' ⟨rfl, rfl⟩
  go_wp2_with fail
  refine H2.out.mono ?_; rintro e w' ⟨rfl, rfl⟩
  go_wp2_with fail
  go_loopw [24] (fun i wr => ∃ k : Nat, k ≤ N ∧ i = .int .i64 k ∧ MulRel w l' m' N M k wr) (fun i _ => N - (intOf i).toNat)
  case atStart => exact ⟨0, Nat.zero_le _, rfl, hst.out⟩
  case round =>
    obtain ⟨i, hi, rfl, hrel⟩ := hrel
    by_cases hiN : i < N
    · obtain ⟨b, off, hAe, hbb, hcell⟩ := h3.at_ (by omega)
      subst hAe
      have hx := (hrel.below.cell (p := ⟨b, off + i, none⟩) (Nat.lt_of_lt_of_le hbb hB)).trans (hcell i hiN)
      obtain ⟨x, hxe⟩ : ∃ x, l'.getD i 0 = x := ⟨_, rfl⟩
      have hxb : x < 4294967296 := by rw [← hxe]; exact hdl.out.getD (by decide) i
      rw [hxe] at hx
      have HX := Lib.hid hxe
      have HI := Lib.hid hrel.enter
      clear hxe hcell hrel hst HE
      have hi0 : (0 : Int) ≤ (i : Int) := by omega
      have hi1 : (i : Int) < (N : Int) := by omega
      obtain ⟨wo, hwo⟩ : ∃ wo : World, wo = wr := ⟨_, rfl⟩
      subst hwo
      go_wp2_with fail
      go_loopw [8, 31] (fun cv kv wr => ∃ k : Nat, k ≤ M ∧ kv = .int .i64 k ∧ MulIn w l' m' N M i k cv wr) (fun _ kv _ => M - (intOf kv).toNat)
      case atStart => exact ⟨0, Nat.zero_le _, rfl, HI.out⟩
      case round =>
        obtain ⟨k, hk, rfl, hin⟩ := hrel
        obtain ⟨cy, rfl, hcy, hbel, hP⟩ := hin.facts
        have hk0 : (0 : Int) ≤ (k : Int) := by omega
        by_cases hkM : k < M
        · obtain ⟨d, hd, hcd, hfz, _, hstep, _⟩ := hP (i + k) (by omega)
          obtain ⟨b2, off2, hAe, hbb2, hcell2⟩ := h4.at_ (by omega)
          subst hAe
          have hy := (hbel.cell (p := ⟨b2, off2 + k, none⟩) (Nat.lt_of_lt_of_le hbb2 hB')).trans (hcell2 k hkM)
          obtain ⟨y, hye⟩ : ∃ y, m'.getD k 0 = y := ⟨_, rfl⟩
          have hyb : y < 4294967296 := by rw [← hye]; exact hdm.out.getD (by decide) k
          rw [hye] at hy
          have HS := Lib.hid (hstep rfl x y HX.out hye hkM hdl.out hdm.out)
          obtain ⟨hq1, hq2⟩ := mul_lt hxb hyb hd hcy
          obtain ⟨q, hq⟩ : ∃ q, x * y = q := ⟨_, rfl⟩
          rw [hq] at HS hq1 hq2
          have hqi : (x : Int) * (y : Int) = (q : Int) := by rw [← hq]; simp
          have hk1 : (k : Int) < (M : Int) := by omega
          have hik : (i : Int) + (k : Int) < (N : Int) + (M : Int) := by omega
          clear hq hye hstep hcell2 hP hbel HI hin
          go_wp2_with fail
          go_roundw
          case rel => exact ⟨k + 1, by omega, by go_num, HS.out⟩
          case measure => simp [intOf]; omega
        · obtain rfl : k = M := by omega
          obtain ⟨d, hd, hcd, hfz, _, _, hstep⟩ := hP (i + k) (by omega)
          have HS := Lib.hid (hstep rfl rfl HM.out)
          have hik : (i : Int) + (k : Int) < (N : Int) + (k : Int) := by omega
          have hcy2 : (cy : Int) % 4294967296 = cy := by omega
          clear hstep hP hbel HI hin
          go_wp2_with fail
          go_roundw
          case rel => exact ⟨i + 1, by omega, by go_num, HS.out⟩
          case measure => simp [intOf]; omega
    · obtain rfl : i = N := by omega
      have HF := Lib.hid (HE.out _ hrel)
      clear hrel hst HE
      go_wp2
      go_ret
      exact HF.out
end Go.Proofs.Ytggdmhkdmkldoaa
