import Derived.Test.YtpikjceodmepiaaAbm
set_option linter.unusedVariables false
set_option linter.unusedSimpArgs false
namespace Go.Proofs.Ytpikjceodmepiaa
open Go.RowKit Hb Hf
set_option linter.unusedVariables false
set_option linter.unusedSimpArgs false
attribute [local go_sem ↓] Go.wp_at_zero Go.wp_at_succ
/-! ### the reference: end -/
theorem digs2_len {l : List Nat} {neg : Bool} {n : Nat} (hd : Dig W l) (hl : l.length = n) : (digs 2 (ival neg l).natAbs).length ≤ 32 * n := by
  rw [ival_natAbs]
  refine digs_length_le (by decide) ?_
  have h := nv_lt hd
  rw [hl] at h
  rw [Nat.pow_mul]
  exact h
theorem ResB.sb {w : World} {B : Nat} {v : Value} {z : Int} (h : ResB w B v z) (hs : (digs 2 z.natAbs).length ≤ 1000000000) : ∃ A c, v = .agg #[.bool (decide (z < 0)), .slice A (digs 2 z.natAbs).length c] ∧ Sb w (Fr B w) (.num z) (rb (.num z) A c) := by
  obtain ⟨A, c, hv, ho⟩ := h
  exact ⟨A, c, hv, ⟨LimB.of_own ho (dig_digs (by decide) _), ⟨A, c, rfl⟩, hs⟩⟩
theorem sb_lo (w : World) (P : Nat → Prop) : Sb w P .lo (rb .lo none 0) := ⟨LimB.nil w P none (c := 0) (by simp [maxLen]), ⟨none, 0, rfl⟩, Nat.zero_le _⟩
theorem sb_hi (w : World) (P : Nat → Prop) : Sb w P .hi (rb .hi none 0) := ⟨LimB.nil w P none (c := 0) (by simp [maxLen]), ⟨none, 0, rfl⟩, Nat.zero_le _⟩
def EndPost (w : World) (e0 : Ed) (e : Ending) (w' : World) : Prop := ∃ d : Bd, e = .returned d.v ∧ Sb w' (Fr w.heap.size w') e0 d ∧ Below w.heap.size w w'
set_option maxRecDepth 100000 in
set_option maxHeartbeats 4000000 in
theorem rend_any {w : World} {P : Nat → Prop} {b : Bd} (h : b.At w P) (hP : ∀ x, P x → x < w.heap.size) (hn : b.n ≤ 31250000) :
    Calls Try.prog 30 #[b.v] w (EndPost w b.ed) := by
  obtain ⟨i, g, A, n, c, l⟩ := b
  have HL := Lib.hid h.lim
  have hz : (digs 2 (ival g l).natAbs).length ≤ 32 * n := digs2_len h.lim.dig h.lim.len
  have HE := Lib.hid (EBox.new w ⟨i, g, A, n, c, l⟩)
  have HBa := Lib.hid (show Below w.heap.size w (w.alloc (.cells (Bd.vals ⟨i, g, A, n, c, l⟩).toArray 39)) from (Below.refl _ _).alloc (Nat.le_refl _) _)
  have HN := Lib.hid (NBox.new (w.alloc (.cells (Bd.vals ⟨i, g, A, n, c, l⟩).toArray 39)) ⟨0, false, none, 0, 0, []⟩)
  rw [World.size_alloc] at HN
  have HBb := Lib.hid (show Below (w.heap.size + 1) (w.alloc (.cells (Bd.vals ⟨i, g, A, n, c, l⟩).toArray 39)) ((w.alloc (.cells (Bd.vals ⟨i, g, A, n, c, l⟩).toArray 39)).alloc (.cells (Bd.vals ⟨0, false, none, 0, 0, []⟩).toArray 65)) from (Below.refl _ _).alloc (by simp) _)
  have HE2 := Lib.hid (HE.out.below (HBb.out.mono (by simp)))
  have HO := Lib.hid (fun y (hy : Below w.heap.size w y) => Of_any g (w := y) ((h.lim.sl (B := w.heap.size) hP).below hy (Nat.le_refl _)) (by have : n ≤ 31250000 := hn; omega) hy.size rfl)
  have hsz : (digs 2 (ival g l).natAbs).length ≤ 1000000000 := by have : n ≤ 31250000 := hn; omega
  have HS := Lib.hid hsz
  have HF := Lib.hid (fun (d : Bd) (w' : World) (h1 : Below w.heap.size w w') (h2 : Sb w' (Fr w.heap.size w') (Bd.ed ⟨i, g, A, n, c, l⟩) d) => show EndPost w (Bd.ed ⟨i, g, A, n, c, l⟩) (.returned (.agg #[.int .i64 d.i, .bool d.g, .slice d.A d.n d.c])) w' from ⟨d, rfl, h2, h1⟩)
  simp only [Bd.v, Bd.vals]
  simp only [Bd.vals] at HE2 HN HBa HBb
  have HBt := Lib.hid (show Below w.heap.size w ((w.alloc (.cells #[.int .i64 i, .bool g, .slice A n c] 39)).alloc (.cells #[.int .i64 0, .bool false, .slice none 0 0] 65)) from HBa.out.trans (HBb.out.mono (by omega)))
  clear h hP hn hz hsz HE HL
  obtain ⟨x0, x1, x2⟩ := HE2.out.cells
  obtain ⟨y0, y1, y2⟩ := HN.out.cells
  obtain ⟨f0, f1, f2⟩ := HN.out.frozens
  simp only at x0 x1 x2 y0 y1 y2
  go_enter Try.func30, Try.ntmps30
  rcases (by omega : i < 0 ∨ 0 < i ∨ i = 0) with hi | hi | hi
  · have hed : Bd.ed ⟨i, g, A, n, c, l⟩ = .lo := Bd.ed_lo hi
    rw [hed]
    rw [hed] at HF
    clear hed HO HE2 HN HBb
    have HNx := Lib.hid (NBox.new (w.alloc (.cells #[.int .i64 i, .bool g, .slice A n c] 39)) ⟨(-1), false, none, 0, 0, []⟩)
    have HBx := Lib.hid (show Below w.heap.size w ((w.alloc (.cells #[.int .i64 i, .bool g, .slice A n c] 39)).alloc (.cells #[.int .i64 (-1), .bool false, .slice none 0 0] 65)) from HBa.out.alloc (by simp) _)
    have HGo := Lib.hid (HF.out (rb .lo none 0) _ HBx.out (sb_lo _ _))
    rw [World.size_alloc] at HNx
    simp only [Bd.vals] at HNx
    simp only [rb] at HGo
    obtain ⟨s0, s1, s2⟩ := HNx.out.cells
    simp only at s0 s1 s2
    go_wp2_with fail
    exact bodyPost_ret (v := .agg #[.int .i64 (-1), .bool false, .slice none 0 0]) (by simp [results, Try.results30, go_sem, s0, s1, s2]) rfl HGo.out
  · have hed : Bd.ed ⟨i, g, A, n, c, l⟩ = .hi := Bd.ed_hi hi
    rw [hed]
    rw [hed] at HF
    clear hed HO HE2 HN HBb
    have HNx := Lib.hid (NBox.new (w.alloc (.cells #[.int .i64 i, .bool g, .slice A n c] 39)) ⟨1, false, none, 0, 0, []⟩)
    have HBx := Lib.hid (show Below w.heap.size w ((w.alloc (.cells #[.int .i64 i, .bool g, .slice A n c] 39)).alloc (.cells #[.int .i64 1, .bool false, .slice none 0 0] 65)) from HBa.out.alloc (by simp) _)
    have HGo := Lib.hid (HF.out (rb .hi none 0) _ HBx.out (sb_hi _ _))
    rw [World.size_alloc] at HNx
    simp only [Bd.vals] at HNx
    simp only [rb] at HGo
    obtain ⟨s0, s1, s2⟩ := HNx.out.cells
    simp only at s0 s1 s2
    go_wp2_with fail
    exact bodyPost_ret (v := .agg #[.int .i64 1, .bool false, .slice none 0 0]) (by simp [results, Try.results30, go_sem, s0, s1, s2]) rfl HGo.out
  · subst hi
    have hed : Bd.ed ⟨0, g, A, n, c, l⟩ = .num (ival g l) := Bd.ed_zero rfl
    rw [hed]
    rw [hed] at HF
    clear hed
    have HZ2 := Lib.hid (show ((w.alloc (.cells #[.int .i64 0, .bool g, .slice A n c] 39)).alloc (.cells #[.int .i64 0, .bool false, .slice none 0 0] 65)).heap.size = w.heap.size + 2 by simp)
    generalize ival g l = z at *
    go_wp2_with fail
    (with_reducible refine (HO.out _ HBt.out).mono ?_)
    rintro e w3 ⟨v, he, hr, hb⟩
    obtain ⟨A2, c2, hv, hsb⟩ := hr.sb HS.out
    subst hv
    subst he
    have HB3 := Lib.hid (HBt.out.trans (hb.mono HBt.out.size))
    have HN3 := Lib.hid (HN.out.below hb)
    have HSb := Lib.hid hsb
    have HS3 := Lib.hid hb.size
    clear x0 x1 x2 y0 y1 y2 f0 f1 f2 hb hr hsb HBt HBb HBa HN HE2 HO
    generalize ((w.alloc (.cells #[.int .i64 0, .bool g, .slice A n c] 39)).alloc (.cells #[.int .i64 0, .bool false, .slice none 0 0] 65)) = w2 at *
    obtain ⟨y0, y1, y2⟩ := HN3.out.cells
    obtain ⟨f0, f1, f2⟩ := HN3.out.frozens
    simp only at y0 y1 y2
    have hlt := HN3.out.lt
    have HSet := Lib.hid (HN3.out.set3 (rb (.num z) A2 c2))
    simp only [rb] at HSet
    go_wp2_with fail
    have hs3 := HS3.out
    have hz2 := HZ2.out
    have HGo := Lib.hid (HF.out (rb (.num z) A2 c2) _ (HB3.out.grown HSet.out.2 (by omega) (fun j e => by injection e with e; omega)) (HSb.out.keep (fun b hb => ⟨⟨by have := hb.1; omega, by have := hb.2; have := HSet.out.2.size; omega⟩, HSet.out.2.block b hb.2 (fun e => by injection e with e; have := hb.1; omega)⟩)))
    simp only [rb] at HGo
    obtain ⟨s0, s1, s2⟩ := HSet.out.1.cells
    simp only at s0 s1 s2
    exact bodyPost_ret (v := .agg #[.int .i64 0, .bool (decide (z < 0)), .slice A2 (digs 2 z.natAbs).length c2]) (by simp [results, Try.results30, go_sem, s0, s1, s2]) rfl HGo.out
/-! ### the reference: Cmp of ends -/
def infZ : Ed → Int | .lo => -1 | .num _ => 0 | .hi => 1
def cmpE : Ed → Ed → Int
  | .num x, .num y => cmpZ x y
  | e, f => infZ e - infZ f
theorem cmpE_le {e f : Ed} : cmpE e f ≤ 0 ↔ leE e f := by
  cases e <;> cases f <;> simp [cmpE, infZ, leE, cmpZ]
  split
  · simp; omega
  · split <;> simp <;> omega
def KE (w : World) (k : Int) (e : Ending) (w' : World) : Prop := e = .returned (.int .i64 k) ∧ Below w.heap.size w w'
set_option maxRecDepth 100000 in
set_option maxHeartbeats 4000000 in
theorem rCmpE {w : World} {P Q : Nat → Prop} {a b : Bd} {e f : Ed} (ha : Sb w P e a) (hb : Sb w Q f b) (hP : ∀ x, P x → x < w.heap.size) (hQ : ∀ x, Q x → x < w.heap.size) :
    Calls Try.prog 89 #[a.v, b.v] w (KE w (cmpE e f)) := by
  have HA := Lib.hid (NBox.new w a)
  have HBa := Lib.hid (show Below w.heap.size w (w.alloc (.cells a.vals.toArray 65)) from (Below.refl _ _).alloc (Nat.le_refl _) _)
  have HB := Lib.hid (NBox.new (w.alloc (.cells a.vals.toArray 65)) b)
  rw [World.size_alloc] at HB
  have HBb := Lib.hid (show Below (w.heap.size + 1) (w.alloc (.cells a.vals.toArray 65)) ((w.alloc (.cells a.vals.toArray 65)).alloc (.cells b.vals.toArray 65)) from (Below.refl _ _).alloc (by simp) _)
  have HA2 := Lib.hid (HA.out.below (HBb.out.mono (by simp)))
  have HBt := Lib.hid (show Below w.heap.size w ((w.alloc (.cells a.vals.toArray 65)).alloc (.cells b.vals.toArray 65)) from HBa.out.trans (HBb.out.mono (by omega)))
  obtain ⟨aA, ac, rfl⟩ := ha.is
  obtain ⟨bA, bc, rfl⟩ := hb.is
  have hla := ha.lim.sl (B := w.heap.size) hP
  have hlb := hb.lim.sl (B := w.heap.size) hQ
  have hsa := ha.sm
  have hsb := hb.sm
  have hz2 : ((w.alloc (.cells (rb e aA ac).vals.toArray 65)).alloc (.cells (rb f bA bc).vals.toArray 65)).heap.size = w.heap.size + 2 := by simp
  have HZ := Lib.hid hz2
  simp only [Bd.v, Bd.vals] at HA2 HB HBt HZ ⊢
  obtain ⟨x0, x1, x2⟩ := HA2.out.cells
  obtain ⟨y0, y1, y2⟩ := HB.out.cells
  have xl := HA2.out.lt
  have yl := HB.out.lt
  clear ha hb hP hQ HA HBa HBb hz2
  have HC := Lib.hid (fun (x y : Int) (he : e = .num x) (hf : f = .num y) (u : World) (hu : Below w.heap.size w u) => show Calls Try.prog 88 #[.agg #[.bool (decide (x < 0)), .slice aA (digs 2 x.natAbs).length ac], .agg #[.bool (decide (y < 0)), .slice bA (digs 2 y.natAbs).length bc]] u (KE u (cmpZ x y)) by
    subst he
    subst hf
    exact rcmp_any (hla.below (C := w.heap.size) hu (Nat.le_refl _)) (hlb.below (C := w.heap.size) hu (Nat.le_refl _)) hu.size hu.size (Nat.le_trans hsa (by omega)) (Nat.le_trans hsb (by omega)) rfl)
  clear hla hlb hsa hsb HA2 HB
  cases e with
  | lo =>
    cases f with
    | lo =>
      simp only [rb] at x0 x1 x2 y0 y1 y2 xl yl HBt HZ ⊢
      clear HC
      have HK := Lib.hid (fun u (hu : Below w.heap.size w u) => show KE w (cmpE .lo .lo) (.returned (.int .i64 (0))) u from ⟨rfl, hu⟩)
      go_enter Try.func89, Try.ntmps89
      go_wp2_with fail
      exact bodyPost_ret (v := .int .i64 (0)) (by simp [results, Try.results89, go_sem]) rfl (HK.out _ HBt.out)
    | num Y =>
      simp only [rb] at x0 x1 x2 y0 y1 y2 xl yl HBt HZ ⊢
      clear HC
      have HK := Lib.hid (fun u (hu : Below w.heap.size w u) => show KE w (cmpE .lo (.num Y)) (.returned (.int .i64 (-1))) u from ⟨rfl, hu⟩)
      go_enter Try.func89, Try.ntmps89
      go_wp2_with fail
      exact bodyPost_ret (v := .int .i64 (-1)) (by simp [results, Try.results89, go_sem]) rfl (HK.out _ HBt.out)
    | hi =>
      simp only [rb] at x0 x1 x2 y0 y1 y2 xl yl HBt HZ ⊢
      clear HC
      have HK := Lib.hid (fun u (hu : Below w.heap.size w u) => show KE w (cmpE .lo .hi) (.returned (.int .i64 (-2))) u from ⟨rfl, hu⟩)
      go_enter Try.func89, Try.ntmps89
      go_wp2_with fail
      exact bodyPost_ret (v := .int .i64 (-2)) (by simp [results, Try.results89, go_sem]) rfl (HK.out _ HBt.out)
  | num X =>
    cases f with
    | lo =>
      simp only [rb] at x0 x1 x2 y0 y1 y2 xl yl HBt HZ ⊢
      clear HC
      have HK := Lib.hid (fun u (hu : Below w.heap.size w u) => show KE w (cmpE (.num X) .lo) (.returned (.int .i64 (1))) u from ⟨rfl, hu⟩)
      go_enter Try.func89, Try.ntmps89
      go_wp2_with fail
      exact bodyPost_ret (v := .int .i64 (1)) (by simp [results, Try.results89, go_sem]) rfl (HK.out _ HBt.out)
    | num Y =>
      simp only [rb] at x0 x1 x2 y0 y1 y2 xl yl HBt HZ ⊢
      have HK := Lib.hid (HC.out X Y rfl rfl _ HBt.out)
      clear HC
      go_enter Try.func89, Try.ntmps89
      go_wp2_with fail
      (with_reducible refine HK.out.mono ?_)
      rintro r w3 ⟨he, hb3⟩
      subst he
      have HR := Lib.hid (HBt.out.trans (hb3.mono HBt.out.size))
      clear x0 x1 x2 y0 y1 y2 hb3
      have key : KE w (cmpE (.num X) (.num Y)) (.returned (.int .i64 (cmpZ X Y))) w3 := ⟨rfl, HR.out⟩
      go_wp2_with fail
      exact bodyPost_ret (v := .int .i64 (cmpZ X Y)) (by simp [results, Try.results89, go_sem]) rfl key
    | hi =>
      simp only [rb] at x0 x1 x2 y0 y1 y2 xl yl HBt HZ ⊢
      clear HC
      have HK := Lib.hid (fun u (hu : Below w.heap.size w u) => show KE w (cmpE (.num X) .hi) (.returned (.int .i64 (-1))) u from ⟨rfl, hu⟩)
      go_enter Try.func89, Try.ntmps89
      go_wp2_with fail
      exact bodyPost_ret (v := .int .i64 (-1)) (by simp [results, Try.results89, go_sem]) rfl (HK.out _ HBt.out)
  | hi =>
    cases f with
    | lo =>
      simp only [rb] at x0 x1 x2 y0 y1 y2 xl yl HBt HZ ⊢
      clear HC
      have HK := Lib.hid (fun u (hu : Below w.heap.size w u) => show KE w (cmpE .hi .lo) (.returned (.int .i64 (2))) u from ⟨rfl, hu⟩)
      go_enter Try.func89, Try.ntmps89
      go_wp2_with fail
      exact bodyPost_ret (v := .int .i64 (2)) (by simp [results, Try.results89, go_sem]) rfl (HK.out _ HBt.out)
    | num Y =>
      simp only [rb] at x0 x1 x2 y0 y1 y2 xl yl HBt HZ ⊢
      clear HC
      have HK := Lib.hid (fun u (hu : Below w.heap.size w u) => show KE w (cmpE .hi (.num Y)) (.returned (.int .i64 (1))) u from ⟨rfl, hu⟩)
      go_enter Try.func89, Try.ntmps89
      go_wp2_with fail
      exact bodyPost_ret (v := .int .i64 (1)) (by simp [results, Try.results89, go_sem]) rfl (HK.out _ HBt.out)
    | hi =>
      simp only [rb] at x0 x1 x2 y0 y1 y2 xl yl HBt HZ ⊢
      clear HC
      have HK := Lib.hid (fun u (hu : Below w.heap.size w u) => show KE w (cmpE .hi .hi) (.returned (.int .i64 (0))) u from ⟨rfl, hu⟩)
      go_enter Try.func89, Try.ntmps89
      go_wp2_with fail
      exact bodyPost_ret (v := .int .i64 (0)) (by simp [results, Try.results89, go_sem]) rfl (HK.out _ HBt.out)
end Go.Proofs.Ytpikjceodmepiaa

