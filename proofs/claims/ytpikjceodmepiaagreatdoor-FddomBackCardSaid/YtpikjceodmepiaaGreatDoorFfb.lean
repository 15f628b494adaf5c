import Derived.Test.YtpikjceodmepiaaGreatDoorFdb
import Derived.Test.YtpikjceodmepiaaGreatDoorFeb
set_option linter.unusedVariables false
set_option linter.unusedSimpArgs false
namespace Go.Proofs.YtpikjceodmepiaaGreatDoor
open Go.RowKit Hb Hf Ht
set_option linter.unusedVariables false
set_option linter.unusedSimpArgs false
attribute [local go_sem ↓] Go.wp_at_zero Go.wp_at_succ
/-! ### Read, of a term that is a set -/
def ReadPostB (B : Nat) (w : World) (L : List R) (K : Nat) (e : Ending) (w' : World) : Prop :=
  ∃ A m c qs, e = .returned (.tuple #[.slice A m c, .nilIface]) ∧ SOut w' B A m c qs K 128 ∧ (∀ z, Hf.mem z (qs.map edsR) ↔ Hf.mem z L) ∧ Below B w w'
def ReadPost (w : World) (L : List R) (K : Nat) (e : Ending) (w' : World) : Prop := ReadPostB w.heap.size w L K e w'
set_option maxRecDepth 100000 in
set_option maxHeartbeats 4000000 in
theorem Read_ok {w0 w : World} {t : Tm} {sl : Value} {K : Nat} (h : TAt w w.heap.size t sl) (hU : UOk w0 w) (hc : checkP t = 0) (hr : (rdT t).2 = true) (hK : (rdT t).1.length ≤ K) (hK9 : K ≤ 1000) :
    Calls Tryz.prog 11 #[valT t sl] w (ReadPost w (rdT t).1 K) := by
  obtain ⟨B, hB⟩ : ∃ B, w.heap.size = B := ⟨_, rfl⟩
  obtain ⟨A, c, rfl, hl1, hl2, hl3⟩ := h.slice
  obtain ⟨k, nb, mb, b, v, hlt⟩ := tm_letters t
  have hv : ∀ sl, valT t sl = .agg #[.int .i64 k, .string nb, .string mb, .int .u64 b, .int .i64 v, sl] := fun sl => by unfold valT; rw [hlt]
  obtain ⟨q, hq⟩ : ∃ q, t.as.length = q := ⟨_, rfl⟩
  rw [hq] at h ⊢
  have hX := TBox.newL w (t := t) (sl := .slice A q c) hlt
  have hb1 : Below w.heap.size w (w.alloc (.cells #[.int .i64 k, .string nb, .string mb, .int .u64 b, .int .i64 v, .slice A q c] 26)) := (Below.refl _ _).alloc (Nat.le_refl _) _
  have HT := Lib.hid (fun (u : World) (hu : Below w.heap.size w u) => show TAt u u.heap.size t (.slice A q c) from h.to hu hu.size)
  have HU := Lib.hid (fun (u : World) (hu : Below w.heap.size w u) => hU.below hu)
  have HC := Lib.hid (And.intro hc (And.intro hr (And.intro hK hK9)))
  have HCk := Lib.hid (fun (u : World) (hu : Below w.heap.size w u) => show Calls Tryz.prog 42 #[.agg #[.int .i64 k, .string nb, .string mb, .int .u64 b, .int .i64 v, .slice A q c]] u (fun e w' => e = .returned (.int .i64 0) ∧ Below u.heap.size u w') from by
    have hh := Check_any (HT.out u hu) (HU.out u hu)
    rw [HC.out.1, hv] at hh
    exact hh)
  have HRg := Lib.hid (fun (u : World) (hu : Below w.heap.size w u) => show Calls Tryz.prog 43 #[.agg #[.int .i64 k, .string nb, .string mb, .int .u64 b, .int .i64 v, .slice A q c]] u (RgPostB u.heap.size u t) from by
    have hh := ranges_ok t u _ (HT.out u hu) HC.out.1
    rw [hv] at hh
    exact hh)
  unfold RgPostB at HRg
  rw [hr] at HRg
  rw [hv]
  rw [hB] at hX
  have HX := Lib.hid hX
  have HB1 := Lib.hid hb1
  have HLt := Lib.hid hlt
  unfold ReadPost
  rw [hB]
  have HB := Lib.hid hB
  clear h hU hc hr hK hK9 hlt hv hX hb1 hq hl1 hl2 hl3
  generalize rdT t = rd at *
  obtain ⟨L, ok⟩ := rd
  simp only at HRg HC ⊢
  obtain ⟨x0, x1, x2, x3, x4, x5⟩ := TBox.cellsL HX.out HLt.out
  go_enter Tryz.func11, Tryz.ntmps11
  go_upto_region 1 with fail
  try rw [hB]
  clear hB
  generalize w.alloc (.cells #[.int .i64 k, .string nb, .string mb, .int .u64 b, .int .i64 v, .slice A q c] 26) = w1 at *
  go_upto_region 4 with (go_at_call 42; (with_reducible refine (HCk.out _ HB1.out).mono ?_); rintro e u1 ⟨rfl, hb⟩; have HU1 := Lib.hid (HB1.out.trans (hb.mono HB1.out.size)); have HX1 := Lib.hid (TBox.below HX.out hb); clear hb x0 x1 x2 x3 x4 x5; obtain ⟨x0, x1, x2, x3, x4, x5⟩ := TBox.cellsL HX1.out HLt.out)
  go_upto_region 7 with (go_at_call 43; (with_reducible refine (HRg.out _ HU1.out).mono ?_); rintro e u2 ⟨A2, n2, c2, qs, rfl, hr2, hg2, he2, _, hs2, hb⟩; have HU2 := Lib.hid (HU1.out.trans (hb.mono HU1.out.size)); have HR2 := Lib.hid (And.intro hr2 (And.intro hg2 (And.intro he2 hs2))); clear hb hr2 hg2 he2 hs2 x0 x1 x2 x3 x4 x5)
  have HIn := Lib.hid (show SIn u2 (fun x => x < u2.heap.size) A2 n2 c2 qs K 128 from ⟨(HR2.out.1.set (fun b h1 h2 => ⟨h1, h2⟩)).wide (fun b hb => hb.2), fun q hq => ⟨fun _ => (HR2.out.2.1 q hq).2.1, fun _ => (HR2.out.2.1 q hq).2.2⟩, by
    have h1 := HR2.out.1.len
    have h2 := congrArg List.length HR2.out.2.2.1
    rw [List.length_map] at h2
    have := HC.out.2.2.1
    omega, by rw [HR2.out.2.2.1]; exact HR2.out.2.2.2⟩)
  have HNm := Lib.hid (Norm_ok HIn.out (fun x hx => hx) HC.out.2.2.2 (by omega))
  unfold OnePost at HNm
  go_wp2_with (go_at_call 24; (with_reducible refine HNm.out.mono ?_); rintro e u3 ⟨A3, n3, c3, q3, rfl, ho3, hm3, hb⟩; have HO3 := Lib.hid (And.intro ho3 hm3); have HU3 := Lib.hid (HU2.out.trans (hb.mono HU2.out.size)); clear ho3 hm3 hb)
  have key : ReadPostB B w L K (.returned (.tuple #[.slice A3 n3 c3, .nilIface])) u3 :=
    ⟨A3, n3, c3, q3, rfl, HO3.out.1.lower (by have := HU2.out.size; have := HB.out; omega), fun z => by rw [HO3.out.2 z, HR2.out.2.2.1], by rw [← HB.out]; exact HU3.out⟩
  first
    | (go_ret; exact key)
    | exact bodyPost_ret (v := .tuple #[.slice A3 n3 c3, .nilIface]) (by simp [results, Tryz.results11, go_sem]) rfl key
end Go.Proofs.YtpikjceodmepiaaGreatDoor

