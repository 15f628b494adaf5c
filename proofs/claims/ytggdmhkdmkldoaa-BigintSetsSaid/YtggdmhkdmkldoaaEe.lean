import Derived.Test.YtggdmhkdmkldoaaEd
import Derived.Test.YtggdmhkdmkldoaaPe
import Derived.Test.YtggdmhkdmkldoaaSh
namespace Go.Proofs.Ytggdmhkdmkldoaa
open Go.RowKit Hb

/-! ### each: limb by limb on two's complements -/
def EachRel (w : World) (B gx gy : Nat) (opf : Nat → Nat → Nat) (lx ly : List Nat) (K k : Nat) (wr : World) : Prop :=
  OwnU wr B (some ⟨gx, 0, none⟩) K K (u32s ((List.zipWith opf lx ly).take k ++ lx.drop k)) ∧ OwnU wr B (some ⟨gy, 0, none⟩) K K (u32s ly) ∧ Below B w wr
section
variable {w wr : World} {B gx gy K k : Nat} {opf : Nat → Nat → Nat} {lx ly : List Nat}
theorem EachRel.start (hx : OwnU wr B (some ⟨gx, 0, none⟩) K K (u32s lx)) (hy : OwnU wr B (some ⟨gy, 0, none⟩) K K (u32s ly)) (hb : Below B w wr) : EachRel w B gx gy opf lx ly K 0 wr :=
  ⟨by simpa using hx, hy, hb⟩
theorem own_ge {t : TypeId} {n c g : Nat} {xs : List Value} (ho : Own t wr B (some ⟨g, 0, none⟩) n c xs) : B ≤ g := (own_block ho rfl).1
theorem EachRel.facts (h : EachRel w B gx gy opf lx ly K k wr) (hk : k < K) (hlx : lx.length = K) (hly : ly.length = K) (dx : Dig W lx) (dy : Dig W ly) (hne : gx ≠ gy) :
    wr.cell? ⟨gx, k, none⟩ = some (.int .u32 (lx.getD k 0 : Nat)) ∧ wr.frozen? ⟨gx, k, none⟩ = false ∧ wr.cell? ⟨gy, k, none⟩ = some (.int .u32 (ly.getD k 0 : Nat)) ∧ lx.getD k 0 < 4294967296 ∧ ly.getD k 0 < 4294967296 ∧
      Hid (∀ wd, Dr wr wd → EachRel w B gx gy opf lx ly K (k + 1) (wd.setCell ⟨gx, k, none⟩ (.int .u32 (opf (lx.getD k 0) (ly.getD k 0) : Nat)))) := by
  obtain ⟨hx, hy, hb⟩ := h
  have hdr : lx.drop k = lx.getD k 0 :: lx.drop (k + 1) := by rw [List.drop_eq_getElem_cons (by omega), getD_eq (by omega)]
  have hzl : (List.zipWith opf lx ly).length = K := by rw [List.length_zipWith]; omega
  have htl : ((List.zipWith opf lx ly).take k).length = k := by rw [List.length_take]; omega
  have hget : ((List.zipWith opf lx ly).take k ++ lx.drop k).getD k 0 = lx.getD k 0 := by
    rw [hdr, List.getD_eq_getElem?_getD, List.getElem?_append_right (by omega), htl]; simp
  have h1 := hx.cell (j := k) hk
  have h2 := hy.cell (j := k) hk
  rw [u32s_get (by rw [List.length_append, List.length_drop]; omega), hget] at h1
  rw [u32s_get (by omega)] at h2
  refine ⟨h1, hx.frozen k, h2, dx.getD (by decide) k, dy.getD (by decide) k, Lib.hid fun wd hd => ⟨?_, ?_, ?_⟩⟩
  · obtain ⟨q, rfl⟩ := hd
    have h3 := Own.set_ (show OwnU (wr.drewN q) B (some ⟨gx, 0, none⟩) K K _ from hx) k (.int .u32 (opf (lx.getD k 0) (ly.getD k 0) : Nat))
    rw [u32s_set, hdr, List.set_append_right _ _ (by omega), htl, Nat.sub_self, List.set_cons_zero] at h3
    have e : (List.zipWith opf lx ly).take (k + 1) ++ lx.drop (k + 1) = (List.zipWith opf lx ly).take k ++ opf (lx.getD k 0) (ly.getD k 0) :: lx.drop (k + 1) := by
      rw [List.take_succ_eq_append_getElem (by omega), List.append_assoc, List.getElem_zipWith, getD_eq (by omega), getD_eq (by omega)]; rfl
    rw [e]; exact h3
  · obtain ⟨q, rfl⟩ := hd
    exact Own.far (show OwnU (wr.drewN q) B (some ⟨gy, 0, none⟩) K K _ from hy) (fun g e => by injection e with e; injection e with e _ _; intro e2; exact hne (e2.symm.trans e.symm)) _
  · exact (hb.trans (hd.below B)).setCell (own_ge hx) _
theorem EachRel.end_ (h : EachRel w B gx gy opf lx ly K K wr) (hlx : lx.length = K) (hly : ly.length = K) :
    OwnU wr B (some ⟨gx, 0, none⟩) K K (u32s (List.zipWith opf lx ly)) ∧ Below B w wr := by
  obtain ⟨hx, _, hb⟩ := h
  rw [List.take_of_length_le (by rw [List.length_zipWith]; omega), List.drop_eq_nil_of_le (by omega), List.append_nil] at hx
  exact ⟨hx, hb⟩
end
theorem enter_run {P : Program} {f : FuncId} {fn : Func} {c : Code} (hf : P.funcs[f]? = some fn) (hname : (fn.name == "runtime.NumGoroutine") = false) (hb : fn.body = some c) (args : Array Value) (w : World) :
    (callFunc f args).run P w = .ok (.enter f args) w := by
  have h1 : fn.name ≠ "runtime.NumGoroutine" := by simpa using hname
  simp [callFunc, hf, h1, hb]
/-- what a function of two limbs does -/
def OpC (F : FuncId) (opf : Nat → Nat → Nat) : Prop := ∀ (x y : Nat) (w : World), x < 4294967296 → y < 4294967296 →
  Calls Try.prog F #[.int .u32 (x : Int), .int .u32 (y : Int)] w fun e w' => e = .returned (.int .u32 (opf x y : Nat)) ∧ w = w'

set_option maxRecDepth 100000 in
set_option maxHeartbeats 4000000 in
theorem each_good (F : FuncId) (hen : ∀ (args : Array Value) (w : World), (callFunc F args).run Try.prog w = .ok (.enter F args) w) {opf : Nat → Nat → Nat} {bop : Bool → Bool → Bool} (hF : OpC F opf) (hf : ∀ x y, x < 4294967296 → y < 4294967296 → opf x y < 4294967296)
    (hbit : ∀ x y i, x < 4294967296 → y < 4294967296 → i < 32 → (opf x y).testBit i = bop (x.testBit i) (y.testBit i))
    (na nb : Bool) {B B' : Nat} {A A' : Option Addr} {l m : List Nat} {n c n' c' : Nat} {w : World} (hs : SlU w B A n c l) (ht : SlU w B' A' n' c' m) (hn : n ≤ 67108000) (hn' : n' ≤ 67108000) (hB : B ≤ w.heap.size) (hB' : B' ≤ w.heap.size)
    (hlg : (lng l || lng m) = false) {z : Int} (hz : ∀ i, ib z i = bop (ib (ival na l) i) (ib (ival nb m) i)) :
    Calls Try.prog 89 #[.agg #[.bool na, .slice A n c], .agg #[.bool nb, .slice A' n' c'], .func (.func F) #[] #[]] w (PostC w z (err (tooLong z))) := by
  have HL := Lib.hid (W2_long (na := na) (nb := nb) hs ht (by omega) (by omega) hB hB')
  rw [hlg] at HL
  have HW := Lib.hid (W2_below w na nb A A' n c n' c')
  have HK := Lib.hid (fun C w2 (hb : Below C (W2 w na nb A A' n c n' c') w2) hC => W2_cells hb hC)
  have HT1 := Lib.hid (fun w1 (hb : Below w.heap.size w w1) => trim_any (hs.below (C := w.heap.size) hb hB))
  have HT2 := Lib.hid (fun w1 (hb : Below w.heap.size w w1) => trim_any (ht.below (C := w.heap.size) hb hB'))
  obtain ⟨N, hN⟩ : ∃ N, max (tlen l) (tlen m) = N := ⟨_, rfl⟩
  have hl1 := tlen_le l
  have hl2 := tlen_le m
  have hl3 := hs.len
  have hl4 := ht.len
  have hN9 : N ≤ 67108000 := by omega
  have hmx : max (tlen l : Int) (tlen m : Int) = (N : Int) := by omega
  have hNK : (N : Int) + 1 = ((N + 1 : Nat) : Int) := rfl
  have hx : (ival na l).natAbs < W ^ N := by
    rw [ival_natAbs, ← nv_tr]
    refine Nat.lt_of_lt_of_le (nv_lt hs.dig.tr) (Nat.pow_le_pow_right (by decide) ?_)
    rw [tr_length]; omega
  have hy : (ival nb m).natAbs < W ^ N := by
    rw [ival_natAbs, ← nv_tr]
    refine Nat.lt_of_lt_of_le (nv_lt ht.dig.tr) (Nat.pow_le_pow_right (by decide) ?_)
    rw [tr_length]; omega
  have hxt := tcv_tw hx
  have hyt := tcv_tw hy
  rw [ival_natAbs] at hxt hyt
  obtain ⟨K, hK⟩ : ∃ K, N + 1 = K := ⟨_, rfl⟩
  rw [hK] at hxt hyt
  have HTW1 := Lib.hid (fun w1 (hb : Below w.heap.size w w1) => twos_any na (k := K) (hs.below (C := w.heap.size) hb hB) (Nat.le_trans hB hb.size) (by omega) (by omega))
  have HTW2 := Lib.hid (fun w1 (hb : Below w.heap.size w w1) => twos_any nb (k := K) (ht.below (C := w.heap.size) hb hB') (Nat.le_trans hB' hb.size) (by omega) (by omega))
  have hK9 : K ≤ 67108001 := by omega
  have hK0 : 0 < K := by omega
  have HVAL : Hid (∀ lx ly, lx.length = K → ly.length = K → Dig W lx → Dig W ly → nv W lx = (if ival na l < 0 then W ^ K - nv W l else nv W l) → nv W ly = (if ival nb m < 0 then W ^ K - nv W m else nv W m) → tcv (32 * K) (nv W (List.zipWith opf lx ly)) = z) := Lib.hid (fun lx ly h1 h2 h3 h4 h5 h6 =>
    each_val hK0 h1 h2 h3 h4 (by rw [h5]; exact hxt) (by rw [h6]; exact hyt) hf hbit hz)
  generalize (if ival na l < 0 then W ^ K - nv W l else nv W l) = vx at *
  generalize (if ival nb m < 0 then W ^ K - nv W m else nv W m) = vy at *
  have HF := Lib.hid hF
  have HFF := Lib.hid hf
  have hNKI : (N : Int) + 1 = (K : Int) := by omega
  have HKN := Lib.hid (show K = N + 1 from hK.symm)
  have hKw : IntKind.i64.wrap (K : Int) = (K : Int) := IntWalk.i64_in _ (by omega)
  generalize tlen l = tl at *
  generalize tlen m = tm at *
  clear hs ht hn hn' hB hB' hlg hz hbit hf hF hx hy hxt hyt hl1 hl2 hl3 hl4 hN hK hNK
  go_enter Try.func89, Try.ntmps89
  go_wp2_with fail
  refine HL.out.mono ?_
  rintro ex w3 ⟨rfl, hb3⟩
  obtain ⟨⟨q0, q1⟩, ⟨q2, q3⟩, r0, r1, r2, r3⟩ := HK.out _ _ hb3 (by first | omega | (simp; done) | (simp; omega))
  have HB3 := Lib.hid (HW.out.trans (hb3.mono (B' := w.heap.size) (by first | omega | (simp; done) | (simp; omega))))
  have H3 := Lib.hid hb3
  have hz3 := hb3.size
  simp at hz3
  clear hb3 r0 r1 r2 r3
  have HSS := Lib.hid (fun w' (hb : Below w3.heap.size w3 w') => And.intro (And.intro ((hb.cell (p := ⟨w.heap.size, 0, none⟩) (by simp; omega)).trans q0) ((hb.cell (p := ⟨w.heap.size, 1, none⟩) (by simp; omega)).trans q1)) (And.intro ((hb.cell (p := ⟨w.heap.size + 1, 0, none⟩) (by simp; omega)).trans q2) ((hb.cell (p := ⟨w.heap.size + 1, 1, none⟩) (by simp; omega)).trans q3)))
  go_upto_region 3 with fail
  go_region_held3 (fun w' => (w'.cell? ⟨w.heap.size, 0, none⟩ = some (.bool na) ∧ w'.cell? ⟨w.heap.size, 1, none⟩ = some (.slice A n c)) ∧ (w'.cell? ⟨w.heap.size + 1, 0, none⟩ = some (.bool nb) ∧ w'.cell? ⟨w.heap.size + 1, 1, none⟩ = some (.slice A' n' c')))
    (first | (go_keep; done) | exact HSS.out _ (Below.refl w3.heap.size w3).drew)
    (first
      | (go_at_call 80; (with_reducible refine (HT1.out _ ?_).mono ?_); exact HB3.out.drew; rintro e w' ⟨rfl, rfl⟩)
      | (go_at_call 80; (with_reducible refine (HT2.out _ ?_).mono ?_); exact HB3.out.drew; rintro e w' ⟨rfl, rfl⟩))
  go_upto_region 4 with fail
  have K0 : Below w3.heap.size w3 w3.drew := (Below.refl w3.heap.size w3).drew
  have hzd : w3.heap.size ≤ w3.drew.heap.size := Nat.le_refl _
  have HS5 := Lib.hid (fun w' (hb : Below w3.drew.heap.size w3.drew w') => HSS.out w' (K0.trans (hb.mono hzd)))
  have HB5 := Lib.hid (HB3.out.trans (K0.mono HB3.out.size))
  have H5 := Lib.hid (H3.out.trans (K0.mono H3.out.size))
  obtain ⟨⟨q0, q1⟩, ⟨q2, q3⟩⟩ := HSS.out _ K0
  clear K0 HSS HB3 H3 HT1 HT2
  generalize w3.drew = w5 at *
  go_region_held3 (fun w' => (w'.cell? ⟨w.heap.size, 0, none⟩ = some (.bool na) ∧ w'.cell? ⟨w.heap.size, 1, none⟩ = some (.slice A n c)) ∧ (w'.cell? ⟨w.heap.size + 1, 0, none⟩ = some (.bool nb) ∧ w'.cell? ⟨w.heap.size + 1, 1, none⟩ = some (.slice A' n' c')))
    (first | (go_keep; done) | exact HS5.out _ k7 | exact HS5.out _ k6 | exact HS5.out _ (Below.refl w5.heap.size w5).drew)
    (first
      | (go_at_call 105; (with_reducible refine (HTW1.out _ ?_).mono ?_); exact HB5.out.drew; rintro e w6 ⟨gx, lx, rfl, hox, hlx, hdx, hvx, hb6⟩; have k6 : Below w5.heap.size w5 w6 := (Below.refl w5.heap.size w5).drew.trans hb6; have kz6 := k6.size)
      | (go_at_call 105; (with_reducible refine (HTW2.out _ ?_).mono ?_); exact HB5.out.trans (k6.mono HB5.out.size); rintro e w7 ⟨gy, ly, rfl, hoy, hly, hdy, hvy, hb7⟩; have k7 : Below w5.heap.size w5 w7 := k6.trans (hb7.mono kz6); have kz7 := k7.size))
  have hgx := (own_block hox rfl).2
  have hgy := (own_block hoy rfl).1
  have hne : gx ≠ gy := by omega
  have HX := Lib.hid (And.intro hlx (And.intro hly (And.intro hdx (And.intro hdy hne))))
  have HV := Lib.hid (HVAL.out lx ly hlx hly hdx hdy hvx hvy)
  have HR0 := Lib.hid (EachRel.start (w := w5) (opf := opf) (K := K) (Own.below hox hb7 (Nat.le_refl _)) (Own.mono hoy kz6) k7)
  have HDO := Lib.hid (dig_zip HFF.out hdx hdy)
  clear hgx hgy hox hoy hlx hly hdx hdy hvx hvy hb6 hb7 k6 k7 kz6 kz7 HVAL HTW1 HTW2 q0 q1 q2 q3 hne
  go_wp2_with fail
  go_loopw [37] (fun iv wr => ∃ k : Nat, k ≤ K ∧ iv = .int .i64 k ∧ EachRel w5 w5.heap.size gx gy opf lx ly K k wr) (fun iv _ => K - (intOf iv).toNat)
  case atStart => exact ⟨0, Nat.zero_le _, rfl, HR0.out⟩
  case round =>
    obtain ⟨k, hk, rfl, hrel⟩ := hrel
    have HR := Lib.hid hrel
    have hk0 : (0 : Int) ≤ (k : Int) := by omega
    by_cases hkK : k < K
    · obtain ⟨hcx, hfz, hcy, hxb, hyb, hst⟩ := hrel.facts hkK HX.out.1 HX.out.2.1 HX.out.2.2.1 HX.out.2.2.2.1 HX.out.2.2.2.2
      have hkI : (k : Int) < (K : Int) := by omega
      have HC := Lib.hid (fun w1 => HF.out (lx.getD k 0) (ly.getD k 0) w1 hxb hyb)
      generalize lx.getD k 0 = xx at *
      generalize ly.getD k 0 = yy at *
      clear hrel HR0
      go_upto_region 8 with fail
      refine wp_region_wait (fun w' => w'.cell? ⟨gx, k, none⟩ = some (.int .u32 (xx : Int)) ∧ w'.cell? ⟨gy, k, none⟩ = some (.int .u32 (yy : Int))) 13 (by kernel_rfl) ?_
      change wpAnyW _ _ _ _ _ _ _ _ _ wr.drew
      refine wpAnyW_take 13 (i := 0) (v := .slice (some ⟨gx, 0, none⟩) K K) rfl (by kernel_rfl) (by kernel_rfl) (by kernel_rfl) (by kernel_rfl) (fun _ _ _ h => h) (Or.inl ⟨by kernel_rfl, fun w5 hSw => by go_simp⟩) ⟨hcx, hcy⟩ ?_
      refine wpAnyW_take 13 (i := 1) (v := .int .i64 (k : Int)) rfl (by kernel_rfl) (by kernel_rfl) (by kernel_rfl) (by kernel_rfl) (fun _ _ _ h => h) (Or.inl ⟨by kernel_rfl, fun w5 hSw => by go_simp⟩) ⟨hcx, hcy⟩ ?_
      refine wpAnyW_take 13 (i := 2) (v := .func (.func F) #[] #[]) rfl (by kernel_rfl) (by kernel_rfl) (by kernel_rfl) (by kernel_rfl) (fun _ _ _ h => h) (Or.inl ⟨by kernel_rfl, fun w5 hSw => by go_simp⟩) ⟨hcx, hcy⟩ ?_
      refine wpAnyW_take 13 (i := 3) (v := .slice (some ⟨gx, 0, none⟩) K K) rfl (by kernel_rfl) (by kernel_rfl) (by kernel_rfl) (by kernel_rfl) (fun _ _ _ h => h) (Or.inl ⟨by kernel_rfl, fun w5 hSw => by go_simp⟩) ⟨hcx, hcy⟩ ?_
      refine wpAnyW_take 13 (i := 4) (v := .int .i64 (k : Int)) rfl (by kernel_rfl) (by kernel_rfl) (by kernel_rfl) (by kernel_rfl) (fun _ _ _ h => h) (Or.inl ⟨by kernel_rfl, fun w5 hSw => by go_simp⟩) ⟨hcx, hcy⟩ ?_
      refine wpAnyW_take 13 (i := 5) (v := .pointer (some ⟨gx, k, none⟩)) rfl (by kernel_rfl) (by kernel_rfl) (by kernel_rfl) (by kernel_rfl) (fun _ _ _ h => h) (Or.inl ⟨by kernel_rfl, fun w5 hSw => by go_simp⟩) ⟨hcx, hcy⟩ ?_
      refine wpAnyW_take 13 (i := 6) (v := .int .u32 (xx : Int)) rfl (by kernel_rfl) (by kernel_rfl) (by kernel_rfl) (by kernel_rfl) (fun _ _ _ h => h) (Or.inl ⟨by kernel_rfl, fun w5 hSw => by go_simp⟩) ⟨hcx, hcy⟩ ?_
      refine wpAnyW_take 13 (i := 7) (v := .slice (some ⟨gy, 0, none⟩) K K) rfl (by kernel_rfl) (by kernel_rfl) (by kernel_rfl) (by kernel_rfl) (fun _ _ _ h => h) (Or.inl ⟨by kernel_rfl, fun w5 hSw => by go_simp⟩) ⟨hcx, hcy⟩ ?_
      refine wpAnyW_take 13 (i := 8) (v := .int .i64 (k : Int)) rfl (by kernel_rfl) (by kernel_rfl) (by kernel_rfl) (by kernel_rfl) (fun _ _ _ h => h) (Or.inl ⟨by kernel_rfl, fun w5 hSw => by go_simp⟩) ⟨hcx, hcy⟩ ?_
      refine wpAnyW_take 13 (i := 9) (v := .pointer (some ⟨gy, k, none⟩)) rfl (by kernel_rfl) (by kernel_rfl) (by kernel_rfl) (by kernel_rfl) (fun _ _ _ h => h) (Or.inl ⟨by kernel_rfl, fun w5 hSw => by go_simp⟩) ⟨hcx, hcy⟩ ?_
      refine wpAnyW_take 13 (i := 10) (v := .int .u32 (yy : Int)) rfl (by kernel_rfl) (by kernel_rfl) (by kernel_rfl) (by kernel_rfl) (fun _ _ _ h => h) (Or.inl ⟨by kernel_rfl, fun w5 hSw => by go_simp⟩) ⟨hcx, hcy⟩ ?_
      refine wpAnyW_one (i := 11) (by kernel_rfl) rfl (fun K' hK' => ?_)
      go_simp
      (with_reducible refine (HC.out _).mono ?_)
      rintro ex w' ⟨rfl, rfl⟩
      refine hK'.out _ _ (fun _ => ⟨hcx, hcy⟩) ?_
      refine wpAnyW_one (i := 12) (by kernel_rfl) rfl (fun K' hK' => ?_)
      go_simp
      refine hK'.out _ _ (fun _ => ⟨hcx, hcy⟩) ?_
      refine wpAnyW_one (i := 13) (by kernel_rfl) rfl (fun K' hK' => ?_)
      go_simp
      refine hK'.out _ _ (fun h => absurd h (by simp)) ?_
      refine wpAnyW_done (by kernel_rfl) ?_ _
      go_wp2_with fail
      go_roundw
      case rel => exact ⟨k + 1, by omega, by go_num, hst.out _ ((Dr.refl wr).drew)⟩
      case measure => simp [intOf]; omega
    · obtain rfl : k = K := by omega
      obtain ⟨ho0, hb0⟩ := HR.out.end_ HX.out.1 HX.out.2.1
      have hzl : (List.zipWith opf lx ly).length = k := by rw [List.length_zipWith, HX.out.1, HX.out.2.1, Nat.min_self]
      have hgx := own_ge ho0
      have HO := Lib.hid ho0
      have HLo := Lib.hid hzl
      have HB0 := Lib.hid hb0
      have hkN := HKN.out
      have htb := top_limb (N := N) HDO.out (by rw [hzl]; exact hkN)
      have hcell := ho0.cell (j := N) (by omega)
      rw [u32s_get (by omega)] at hcell
      have htl : (List.zipWith opf lx ly).getD N 0 < 4294967296 := HDO.out.getD (by decide) N
      obtain ⟨_, _, r0, r1, r2, r3⟩ := HK.out _ _ (H5.out.trans (hb0.mono H5.out.size)) (by first | omega | (simp; done) | (simp; omega))
      rw [← hkN] at htb
      generalize List.zipWith opf lx ly = o at *
      generalize o.getD N 0 = tp at *
      have hN1 : (k : Int) - 1 = (N : Int) := by omega
      have hNk : (N : Int) < (k : Int) := by omega
      have hN0 : (0 : Int) ≤ (N : Int) := by omega
      have hv : (2 * nv W o < 2 ^ (32 * k) → (nv W o : Int) = z) ∧ (¬ 2 * nv W o < 2 ^ (32 * k) → (nv W o : Int) - (2 : Int) ^ (32 * k) = z) := by
        have := HV.out
        unfold tcv at this
        exact ⟨fun h => by rw [if_pos h] at this; exact this, fun h => by rw [if_neg h] at this; exact this⟩
      have hvb : nv W o < 2 ^ (32 * k) := by
        have h1 := nv_lt HDO.out
        rw [hzl, W_pow_eq] at h1
        exact h1
      have hpc := two_pow_cast (32 * k)
      have hab : z.natAbs < 2 ^ (32 * k) := by
        by_cases h : 2 * nv W o < 2 ^ (32 * k)
        · have := hv.1 h; omega
        · have := hv.2 h; omega
      have HZl := Lib.hid (show (digs W z.natAbs).length ≤ 67108864 by
        have h1 := digs_length_le (b := W) (n := z.natAbs) (k := k) (by decide) (by rw [W_pow_eq]; exact hab)
        omega)
      have hg1 : w5.heap.size ≤ gx := hgx
      clear hrel HR HR0 ho0 hb0 hzl hkN hab
      by_cases hlt : tp < 2147483648
      · have hd : (tp : Int) / 2147483648 = 0 := by omega
        have HZ := Lib.hid (show ival false o = z from hv.1 (htb.2 hlt))
        have HBx := HB0
        clear hv htb hvb hpc
        go_wp2_with fail
        (with_reducible refine (laid_at false HO.out HLo.out HDO.out HZ.out).mono ?_)
        rintro ex w7 ⟨rfl, ho7, hb7⟩
        have HO7 := Lib.hid ho7
        have HB57 := Lib.hid (HBx.out.trans (hb7.mono HBx.out.size))
        clear ho7 hb7
        go_wp2_with fail
        (with_reducible refine (kept_res HO7.out HZl.out).mono ?_)
        rintro ex w8 ⟨rfl, hb8⟩
        have HO8 := Lib.hid (HO7.out.below (C := w7.heap.size) hb8 (Nat.le_refl _))
        have HB58 := Lib.hid (HB57.out.trans (hb8.mono HB57.out.size))
        obtain ⟨_, _, r0, r1, r2, r3⟩ := HK.out _ _ (H5.out.trans (HB58.out.mono H5.out.size)) (by first | omega | (simp; done) | (simp; omega))
        have HBw := Lib.hid (HB5.out.trans (HB58.out.mono HB5.out.size))
        clear hb8
        cases hT : tooLong z
        · simp only [Bool.false_eq_true, ↓reduceIte, err]
          go_wp2
          have hr := ResI.stored (w := w) (g := w.heap.size + 1 + 1) (u := .bool (decide (z < 0))) (u' := .slice (some ⟨gx, 0, none⟩) (digs W z.natAbs).length k) ⟨(some ⟨gx, 0, none⟩), k, rfl, HO8.out⟩ HBw.out (by omega) (by omega)
          exact bodyPost_ret (v := .tuple #[.agg #[.bool (decide (z < 0)), .slice (some ⟨gx, 0, none⟩) (digs W z.natAbs).length k], .int .i64 0]) (by simp [results, Try.results89, go_sem, r0, r1]) rfl
            (PostC.ok (by simp [err, hT]) hr.1 hr.2)
        · simp only [↓reduceIte, err]
          go_wp2
          exact bodyPost_ret (v := .tuple #[zeroV, .int .i64 10]) (by simp [results, Try.results89, go_sem, r0, r1]) rfl
            (PostC.bad (by simp [err, hT]) (by decide) ((HBw.out.setCell (by simp; omega) _).setCell (by simp; omega) _))
      · have hd : ((tp : Int) / 2147483648 == 0) = false := beq_eq_false_iff_ne.2 (by omega)
        have hd2 : (tp : Int) / 2147483648 = 1 := by omega
        have h0 : 0 < nv W o := by
          have h1 := mt htb.1 hlt
          have := Nat.two_pow_pos (32 * k)
          omega
        have HZ0 := Lib.hid (show (nv W o : Int) - (2 : Int) ^ (32 * k) = z from hv.2 (mt htb.1 hlt))
        have HVB := Lib.hid (And.intro hvb (And.intro hpc h0))
        have HS0 := Lib.hid (NegRel.start (w := w5) (n := k) HO.out HB0.out)
        clear hv htb hvb hpc h0 HO HB0 r0 r1 r2 r3
        go_wp2_with fail
        clear hcell
        go_loopw [12, 68] (fun cv i wr2 => ∃ j : Nat, j ≤ k ∧ i = .int .i64 j ∧ NegRel w5 w5.heap.size gx o k j cv wr2) (fun _ i _ => k - (intOf i).toNat)
        case atStart => exact ⟨0, Nat.zero_le _, rfl, HS0.out⟩
        case round =>
          obtain ⟨j, hj, rfl, hrel⟩ := hrel
          have HR := Lib.hid hrel
          have hj0 : (0 : Int) ≤ (j : Int) := by omega
          by_cases hjk : j < k
          · obtain ⟨cc, rfl, hcc, hx, hfz, hxb, hbel, _, hst⟩ := hrel.facts hjk HLo.out HDO.out
            have hji : (j : Int) < (k : Int) := by omega
            have hcx := cpl_u32 (o.getD j 0) hxb
            have HA := Lib.hid (fun w1 => add0_any (4294967295 - o.getD j 0) cc w1 (by omega) hcc)
            generalize o.getD j 0 = x at *
            clear HS0 hbel
            go_wp2_with fail
            with_reducible refine (HA.out _).mono ?_
            rintro e w' ⟨rfl, rfl⟩
            go_wp2_with fail
            go_roundw
            case rel => exact ⟨j + 1, by omega, by go_num, hst.out⟩
            case measure => simp [intOf]; omega
          · obtain rfl : j = k := by omega
            obtain ⟨o2, h1, h2, h3, h4, h5⟩ := NegRel.end_ HR.out HLo.out HVB.out.2.2
            have HO2 := Lib.hid h1
            have HX2 := Lib.hid (And.intro h2 h3)
            have HBx := Lib.hid h5
            have HZ := Lib.hid (show ival true o2 = z by
              have e1 := HVB.out
              rw [← HZ0.out]
              unfold ival
              rw [h4, W_pow_eq, if_pos rfl]
              omega)
            clear hrel HS0 HR h1 h2 h3 h4 h5
            go_wp2_with fail
            (with_reducible refine (laid_at true HO2.out HX2.out.1 HX2.out.2 HZ.out).mono ?_)
            rintro ex w7 ⟨rfl, ho7, hb7⟩
            have HO7 := Lib.hid ho7
            have HB57 := Lib.hid (HBx.out.trans (hb7.mono HBx.out.size))
            clear ho7 hb7
            go_wp2_with fail
            (with_reducible refine (kept_res HO7.out HZl.out).mono ?_)
            rintro ex w8 ⟨rfl, hb8⟩
            have HO8 := Lib.hid (HO7.out.below (C := w7.heap.size) hb8 (Nat.le_refl _))
            have HB58 := Lib.hid (HB57.out.trans (hb8.mono HB57.out.size))
            obtain ⟨_, _, r0, r1, r2, r3⟩ := HK.out _ _ (H5.out.trans (HB58.out.mono H5.out.size)) (by first | omega | (simp; done) | (simp; omega))
            have HBw := Lib.hid (HB5.out.trans (HB58.out.mono HB5.out.size))
            clear hb8
            cases hT : tooLong z
            · simp only [Bool.false_eq_true, ↓reduceIte, err]
              go_wp2
              have hr := ResI.stored (w := w) (g := w.heap.size + 1 + 1) (u := .bool (decide (z < 0))) (u' := .slice (some ⟨gx, 0, none⟩) (digs W z.natAbs).length j) ⟨(some ⟨gx, 0, none⟩), j, rfl, HO8.out⟩ HBw.out (by omega) (by omega)
              exact bodyPost_ret (v := .tuple #[.agg #[.bool (decide (z < 0)), .slice (some ⟨gx, 0, none⟩) (digs W z.natAbs).length j], .int .i64 0]) (by simp [results, Try.results89, go_sem, r0, r1]) rfl
                (PostC.ok (by simp [err, hT]) hr.1 hr.2)
            · simp only [↓reduceIte, err]
              go_wp2
              exact bodyPost_ret (v := .tuple #[zeroV, .int .i64 10]) (by simp [results, Try.results89, go_sem, r0, r1]) rfl
                (PostC.bad (by simp [err, hT]) (by decide) ((HBw.out.setCell (by simp; omega) _).setCell (by simp; omega) _))
end Go.Proofs.Ytggdmhkdmkldoaa
