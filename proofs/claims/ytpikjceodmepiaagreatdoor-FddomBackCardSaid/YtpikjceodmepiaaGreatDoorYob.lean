import Derived.Test.YtpikjceodmepiaaGreatDoorYnb
set_option linter.unusedVariables false
set_option linter.unusedSimpArgs false
namespace Go.Proofs.YtpikjceodmepiaaGreatDoor
open Go.RowKit Hb Hf
set_option linter.unusedVariables false
set_option linter.unusedSimpArgs false
attribute [local go_sem ↓] Go.wp_at_zero Go.wp_at_succ
/-! ### merge -/
theorem minE_cmp {a b : Bd} (ha : a.Tri) (hb : b.Tri) : (cmpB b a < 0 → minE a.ed b.ed = b.ed) ∧ (¬ cmpB b a < 0 → minE a.ed b.ed = a.ed) := by
  have h := cmpB_le ha hb
  unfold minE
  constructor
  · intro k
    have k2 : ¬ leE a.ed b.ed := fun e => (h.2 e) k
    rw [if_pos ⟨leE_total k2, k2⟩]
  · intro k
    rw [if_neg (fun e => e.2 (h.1 k))]
/-- what the function that is handed in says -/
def KeepOk (F : FuncId) (wt : Bool → Bool → Bool) : Prop := ∀ (x y : Bool) (w : World), Calls Tryz.prog F #[.bool x, .bool y] w fun e w' => e = .returned (.bool (wt x y)) ∧ w = w'
theorem Bd.At.bd {P : Nat → Prop} {B : Nat} {w w' : World} {b : Bd} (h : b.At w (Or P B w)) (hP : ∀ x, P x → x < w.heap.size) (hb : Below w.heap.size w w') : b.At w' (Or P B w') :=
  h.keep fun x hx => ⟨hx.imp id (fun k => ⟨k.1, Nat.lt_of_lt_of_le k.2 hb.size⟩), hb.block x (hx.elim (hP x) (·.2))⟩
/-- an end that has come up in a call from world z to z' -/
theorem Bd.At.up {P : Nat → Prop} {B : Nat} {z0 z z' : World} {b : Bd} (h : b.At z' (Or (Or P B z0) z.heap.size z')) (h0 : z0.heap.size ≤ z.heap.size) (hB : B ≤ z.heap.size) (hz : z.heap.size ≤ z'.heap.size) : b.At z' (Or P B z') :=
  h.wide fun x hx => by
    rcases hx with (hx | hx) | hx
    · exact .inl hx
    · exact .inr ⟨hx.1, by have := hx.2; omega⟩
    · exact .inr ⟨by have := hx.1; omega, hx.2⟩
structure MR (w : World) (P : Nat → Prop) (B : Nat) (wt : Bool → Bool → Bool) (La Lb : List R) (M : Nat) (A : Option Addr) (m c : Nat) (qs : List Rg) (low : Bd) (wr : World) : Prop where
  box : EBox wr B low
  bel : Below B w wr
  le : B + 1 ≤ wr.heap.size
  lo : low.At wr (fun x => (B + 1 ≤ x ∧ x < wr.heap.size) ∧ (Value.slice A m c).ownBlock ≠ some x)
  nrm : low.Nrm
  row : RRow wr (B + 1) (Or P (B + 1) wr) A m c qs
  gd : ∀ q ∈ qs, Gd q
  ms : MS wt La Lb M (qs.map edsR) low.ed
def MergePost (w : World) (P : Nat → Prop) (wt : Bool → Bool → Bool) (La Lb : List R) (M : Nat) (e : Ending) (w' : World) : Prop :=
  ∃ A m c qs, e = .returned (.slice A m c) ∧ SetP w' (Or P w.heap.size w') A m c qs ∧ (∀ q ∈ qs, Gd q) ∧ MEnd wt La Lb M (qs.map edsR) ∧ Below w.heap.size w w'
theorem sh_ne_hi {e : Ed} (h : e ≠ .hi) : succE e = shE 1 e := succE_sh e
theorem Gd.of_sz {a b : Bd} {w : World} {P Q : Nat → Prop} {M : Nat} (ha : a.At w P) (hb : b.At w Q) (na : a.Nrm) (nb : b.Nrm) (h1 : szE a.ed ≤ M) (h2 : szE b.ed ≤ M) (hM : M ≤ 33554432) : Gd (a, b) :=
  ⟨⟨na, nb⟩, by rw [na.szE ha.lim.len]; omega, by rw [nb.szE hb.lim.len]; omega⟩
theorem wpList_app1P {ops : Array Oper} {rest : List Oper} {o : Oper} {a : Act} {Q : Exit → Act → World → Prop} {w3 : World} {P : Nat → Prop} {B n c : Nat} {A : Option Addr} {ps : List Rg} {q : Rg}
    (hgd : o.guard = none) (s x : Operand) (ho : o.op = .call { callee := .builtin .append, args := #[s, x], argTypes := #[22, 22] })
    (hs : a.eval s = .slice A n c) (hx : a.eval x = .slice (some ⟨w3.heap.size, 0, none⟩) 1 1)
    (hrow : RRow w3 B (Or P B w3) A n c ps) (hB : B ≤ w3.heap.size) (hP : ∀ b, P b → b < B) (hf : Rg.At w3 (fun b => Or P B w3 b ∧ (Value.slice A n c).ownBlock ≠ some b) q) (hm : n + 1 ≤ maxRg)
    (hh : ∀ A' c' w', RRow w' B (Or P B w') A' (n + 1) c' (ps ++ [q]) → Below B w3 w' → w3.heap.size ≤ w'.heap.size → (∀ b, b < w3.heap.size → (Value.slice A n c).ownBlock ≠ some b → w'.heap[b]? = w3.heap[b]?) → wpList Tryz.prog ops Q rest (a.put o.dst (.slice A' (n + 1) c')) w') :
    wpList Tryz.prog ops Q (o :: rest) a (w3.alloc (.cells (cells6 q).toArray 69)) := by
  have hb6 : Below w3.heap.size w3 (w3.alloc (.cells (cells6 q).toArray 69)) := (Below.refl _ _).alloc (Nat.le_refl _) _
  have hlt : ∀ b, Or P B w3 b → b < w3.heap.size := fun b hb => hb.elim (fun k => by have := hP b k; omega) (·.2)
  have hrow6 := (hrow.keep hb6 hlt).wide (Q := Or P B (w3.alloc (.cells (cells6 q).toArray 69))) (fun b hb => hb.imp id (fun k => ⟨k.1, Nat.lt_of_lt_of_le k.2 hb6.size⟩))
  have hnews := heap_alloc_new w3 (.cells (cells6 q).toArray 69)
  have hnw : ∀ j u, (fl6 [q])[j]? = some u → (w3.alloc (.cells (cells6 q).toArray 69)).cell? ((⟨w3.heap.size, 0, none⟩ : Addr).add j) = some u := fun j u hj => by
    rw [add_zero', cell_of_row _ w3.heap.size j _ _ (0, 0) hnews, ← hj]
    simp [fl6]
  have hkid : Rg.At (w3.alloc (.cells (cells6 q).toArray 69)) (fun b' => Or P B (w3.alloc (.cells (cells6 q).toArray 69)) b' ∧ (Value.slice A n c).ownBlock ≠ some b') q := hf.keep (fun b' hb => ⟨⟨hb.1.imp id (fun k => ⟨k.1, Nat.lt_of_lt_of_le k.2 hb6.size⟩), hb.2⟩, hb6.block b' (hlt b' hb.1)⟩)
  have hlt6 : ∀ b, Or P B (w3.alloc (.cells (cells6 q).toArray 69)) b → b < (w3.alloc (.cells (cells6 q).toArray 69)).heap.size := fun b hb => hb.elim (fun k => by have := hP b k; have := hb6.size; omega) (·.2)
  have hz6 := hb6.size
  generalize w3.alloc (.cells (cells6 q).toArray 69) = w6 at *
  refine wpList_append_R hgd s x ho [q] hs hrow6 hlt6 ⟨w3.heap.size, 0, none⟩ 1 1 hx rfl (fun y hy => by rw [List.mem_singleton.1 hy]; exact hkid) hnw hm (by omega) ?_
  intro A' c' w' hr hb hg
  exact hh A' c' w' (hr.wide (fun b hb2 => hb2.imp id (fun k => ⟨k.1, Nat.lt_of_lt_of_le k.2 hg.size⟩))) ((hb6.mono hB).trans hb) (Nat.le_trans hz6 hg.size) (fun b k1 k2 => (hg.block b (by omega) (fun e => k2 e.symm)).trans (hb6.block b k1))
set_option maxRecDepth 100000 in
set_option maxHeartbeats 8000000 in
theorem merge_any {w : World} {P : Nat → Prop} {A A' : Option Addr} {n c n' c' M : Nat} {ps ps' : List Rg} {F : FuncId} {wt : Bool → Bool → Bool} (h : SetP w P A n c ps) (h' : SetP w P A' n' c' ps') (hg : ∀ p ∈ ps, Gd p) (hg' : ∀ p ∈ ps', Gd p) (hP : ∀ b, P b → b < w.heap.size)
    (hN : n ≤ 1000000) (hN' : n' ≤ 1000000) (na : NF (ps.map edsR)) (nb : NF (ps'.map edsR)) (ba : Bnd M (ps.map edsR)) (bb : Bnd M (ps'.map edsR)) (hM : M + 1 ≤ 33554432) (hF : KeepOk F wt) (hen0 : ∀ args w, (callFunc F args).run Tryz.prog w = .ok (.enter F args) w) :
    Calls Tryz.prog 91 #[.slice A n c, .slice A' n' c', .func (.func F) #[] #[]] w (MergePost w P wt (ps.map edsR) (ps'.map edsR) M) := by
  obtain ⟨B, hB⟩ : ∃ B, w.heap.size = B := ⟨_, rfl⟩
  have HB := Lib.hid hB
  have hen := hen0
  have HF := Lib.hid hF
  have HP := Lib.hid (show ∀ b, P b → b < B by rw [← hB]; exact hP)
  have HS := Lib.hid (fun z (hz : Below B w z) => And.intro (h.below (B := B) hz (by rw [← hB]; exact hP)) (h'.below (B := B) hz (by rw [← hB]; exact hP)))
  have HG := Lib.hid (And.intro hg hg')
  have HNN := Lib.hid (show n ≤ 1073741824 ∧ n' ≤ 1073741824 by omega)
  have HNf := Lib.hid (And.intro (And.intro na nb) (And.intro ba bb))
  have HLe := Lib.hid (show (ps.map edsR).length = n ∧ (ps'.map edsR).length = n' by rw [List.length_map, List.length_map, h.row.len, h'.row.len]; exact ⟨rfl, rfl⟩)
  have HM := Lib.hid hM
  have HM0 := Lib.hid (show MR w P B wt (ps.map edsR) (ps'.map edsR) M none 0 0 [] (ib (-1)) (w.alloc (.cells (ib (-1)).vals.toArray 67)) from
    ⟨by rw [← hB]; exact EBox.new w _, by rw [← hB]; exact (Below.refl _ _).alloc (Nat.le_refl _) _, by rw [← hB]; simp, ib_at _ _ (.inl rfl), ib_nrm (.inl rfl), RRow.nil _ _ _, by simp, MS.start⟩)
  unfold MergePost
  obtain ⟨La, hLa⟩ : ∃ L, ps.map edsR = L := ⟨_, rfl⟩
  obtain ⟨Lb, hLb⟩ : ∃ L, ps'.map edsR = L := ⟨_, rfl⟩
  rw [hLa, hLb] at HNf HLe HM0 ⊢
  have HLL := Lib.hid (And.intro hLa hLb)
  clear hLa hLb
  have HN9 := Lib.hid (And.intro hN hN')
  rw [hB]
  clear h h' hg hg' hP hN hN' na nb ba bb hM hF hen0 hB
  simp only [Bd.vals, ib] at HM0
  go_enter Tryz.func91, Tryz.ntmps91
  go_wp2_with fail
  rw [HB.out]
  go_loopg [7] (mu (ib (-1)).ed (La ++ Lb)) (fun gn vo wr => ∃ A2 m c2 qs low, vo = .slice A2 m c2 ∧ Hid (MR w P B wt La Lb M A2 m c2 qs low wr ∧ mu low.ed (La ++ Lb) = gn))
  case atStart => exact ⟨none, 0, 0, [], ib (-1), rfl, Lib.hid ⟨HM0.out, rfl⟩⟩
  case round =>
    obtain ⟨A2, m, c2, qs, low, rfl, HI⟩ := hrel
    clear HM0
    have HPw := Lib.hid (show ∀ x, Or P (B + 1) wr x → x < wr.heap.size from fun x hx => hx.elim (fun k => by have := HP.out x k; have := HI.out.1.le; omega) (·.2))
    have HBle := Lib.hid (show B ≤ wr.heap.size by have := HI.out.1.le; omega)
    have HPi := Lib.hid (fun z (hz : Below wr.heap.size wr z) => And.intro
      (piece_any (w := z) ((HS.out z (HI.out.1.bel.trans (hz.mono HBle.out))).1) HG.out.1 (HI.out.1.lo.keep (Q := fun x => x < wr.heap.size) (fun x hx => ⟨hx.1.2, hz.block x hx.1.2⟩)) HI.out.1.nrm (fun b hb => by have := HP.out b hb; have := HBle.out; have := hz.size; omega) (fun b hb => Nat.lt_of_lt_of_le hb hz.size) HNN.out.1)
      (piece_any (w := z) ((HS.out z (HI.out.1.bel.trans (hz.mono HBle.out))).2) HG.out.2 (HI.out.1.lo.keep (Q := fun x => x < wr.heap.size) (fun x hx => ⟨hx.1.2, hz.block x hx.1.2⟩)) HI.out.1.nrm (fun b hb => by have := HP.out b hb; have := HBle.out; have := hz.size; omega) (fun b hb => Nat.lt_of_lt_of_le hb hz.size) HNN.out.2))
    have HLB := Lib.hid HI.out.1.box
    obtain ⟨li, lg, lA, ln, lc, ll⟩ := low
    obtain ⟨x0, x1, x2⟩ := HLB.out.cells
    simp only [Bd.v, Bd.vals] at HPi x0 x1 x2
    obtain ⟨E, hE⟩ : ∃ E, Bd.ed ⟨li, lg, lA, ln, lc, ll⟩ = E := ⟨_, rfl⟩
    obtain ⟨b1, hb1⟩ : ∃ b, (pieceP La E).1 = b := ⟨_, rfl⟩
    obtain ⟨b2, hb2⟩ : ∃ b, (pieceP Lb E).1 = b := ⟨_, rfl⟩
    have HEd := Lib.hid hE
    unfold PiecePost at HPi
    simp only [HLL.out.1, HLL.out.2, hE, hb1, hb2] at HPi
    have HB12 := Lib.hid (And.intro hb1 hb2)
    clear hE hb1 hb2
    go_upto_region 6 with (first
      | (go_at_call 120; (with_reducible refine (HPi.out _ (Below.refl _ _)).1.mono ?_); rintro e z1 ⟨⟨di, dg, dA, dn, dc, dl⟩, rfl, hdt, hdn, hde, hb1⟩; have HD1 := Lib.hid (And.intro hdt (And.intro hdn hde)); have HZ1 := Lib.hid hb1; have HLB1 := Lib.hid (HLB.out.below hb1); clear hdt hdn hde hb1; have g1 : B < z1.heap.size := (by have := HLB1.out.lt; omega); simp only [Bd.v, Bd.vals]; obtain ⟨x0, x1, x2⟩ := HLB1.out.cells)
      | (go_at_call 120; (with_reducible refine (HPi.out _ (HZ1.out.alloc HZ1.out.size _)).2.mono ?_); rintro e z2 ⟨⟨ei, eg, eA, en, ec, el⟩, rfl, het, hen', hee, hb2⟩; have HD2 := Lib.hid (And.intro het (And.intro hen' hee)); have HZ2 := Lib.hid hb2; have g2 : z1.heap.size < z2.heap.size := (by have := hb2.size; simp at this; omega); have hbx : z2.heap[z1.heap.size]? = _ := (hb2.block z1.heap.size (by simp)).trans (heap_alloc_new z1 _); have HLB2 := Lib.hid ((HLB1.out.below ((Below.refl _ _).alloc (Nat.le_refl _) _)).below hb2); have HB10 := Lib.hid (show EBox z2 z1.heap.size ⟨di, dg, dA, dn, dc, dl⟩ from hbx); clear het hen' hee hb2 hbx; simp only [Bd.v, Bd.vals]; obtain ⟨y0, y1, y2⟩ := HB10.out.cells))
    have hz1 := HZ1.out.size
    have hz2 := HZ2.out.size
    simp only [World.size_alloc] at hz2
    have HB12' := Lib.hid (EBox.new z2 ⟨ei, eg, eA, en, ec, el⟩)
    have hb3 : Below z2.heap.size z2 ((z2.alloc (.cells #[.int .i64 ei, .bool eg, .slice eA en ec] 67)).alloc (.cells #[.int .i64 di, .bool dg, .slice dA dn dc] 67)) := ((Below.refl _ _).alloc (Nat.le_refl _) _).alloc (by simp) _
    have b12 : EBox ((z2.alloc (.cells #[.int .i64 ei, .bool eg, .slice eA en ec] 67)).alloc (.cells #[.int .i64 di, .bool dg, .slice dA dn dc] 67)) z2.heap.size ⟨ei, eg, eA, en, ec, el⟩ := EBox.below (EBox.new z2 ⟨ei, eg, eA, en, ec, el⟩) ((Below.refl _ _).alloc (Nat.le_refl _) _)
    have b13 : EBox ((z2.alloc (.cells #[.int .i64 ei, .bool eg, .slice eA en ec] 67)).alloc (.cells #[.int .i64 di, .bool dg, .slice dA dn dc] 67)) (z2.heap.size + 1) ⟨di, dg, dA, dn, dc, dl⟩ := by
      have := EBox.new (z2.alloc (.cells #[.int .i64 ei, .bool eg, .slice eA en ec] 67)) ⟨di, dg, dA, dn, dc, dl⟩
      rwa [World.size_alloc] at this
    have HBX := Lib.hid (And.intro b12 (And.intro b13 (And.intro (HB10.out.below hb3) (HLB2.out.below hb3))))
    have HZ3 := Lib.hid (show Below wr.heap.size wr _ from ((HZ1.out.alloc HZ1.out.size _).trans (HZ2.out.mono (by simp; omega))).trans (hb3.mono (by omega)))
    have t1 := HD1.out.1.keep (Q := fun x => P x ∨ (wr.heap.size ≤ x ∧ x < z2.heap.size)) (w' := z2) (fun x hx => ⟨hx.imp id (fun k => ⟨k.1, by have := k.2; omega⟩), (HZ2.out.block x (hx.elim (fun k => by have := HP.out x k; have := HBle.out; simp; omega) (fun k => by have := k.2; simp; omega))).trans (((Below.refl _ _).alloc (Nat.le_refl _) _).block x (hx.elim (fun k => by have := HP.out x k; have := HBle.out; omega) (·.2)))⟩)
    have t2 := HD2.out.1.wide (Q := fun x => P x ∨ (wr.heap.size ≤ x ∧ x < z2.heap.size)) (fun x hx => hx.imp id (fun k => ⟨by have := k.1; simp at this; omega, k.2⟩))
    have HT := Lib.hid (And.intro (t1.keep (Q := fun x => P x ∨ (wr.heap.size ≤ x ∧ x < z2.heap.size)) (fun x hx => ⟨hx, hb3.block x (hx.elim (fun k => by have := HP.out x k; have := HBle.out; omega) (·.2))⟩)) (t2.keep (Q := fun x => P x ∨ (wr.heap.size ≤ x ∧ x < z2.heap.size)) (fun x hx => ⟨hx, hb3.block x (hx.elim (fun k => by have := HP.out x k; have := HBle.out; omega) (·.2))⟩)))
    have HGw := Lib.hid (show wr.heap.size ≤ z2.heap.size by omega)
    have HG3 := Lib.hid (show wr.heap.size < z2.heap.size ∧ z2.heap.size + 1 + 1 ≤ ((z2.alloc (.cells #[.int .i64 ei, .bool eg, .slice eA en ec] 67)).alloc (.cells #[.int .i64 di, .bool dg, .slice dA dn dc] 67)).heap.size from ⟨by omega, by simp⟩)
    have HNd := Lib.hid (show Bd.Nrm ⟨di, dg, dA, dn, dc, dl⟩ ∧ Bd.Nrm ⟨ei, eg, eA, en, ec, el⟩ from ⟨HD1.out.2.1, HD2.out.2.1⟩)
    have HEe := Lib.hid (show Bd.ed ⟨di, dg, dA, dn, dc, dl⟩ = (pieceP La E).2 ∧ Bd.ed ⟨ei, eg, eA, en, ec, el⟩ = (pieceP Lb E).2 from ⟨HD1.out.2.2, HD2.out.2.2⟩)
    obtain ⟨G12, hG12⟩ : ∃ G, z2.heap.size = G := ⟨_, rfl⟩
    obtain ⟨G10, hG10⟩ : ∃ G, z1.heap.size = G := ⟨_, rfl⟩
    have HPz := Lib.hid (show ∀ x, (fun x => P x ∨ (wr.heap.size ≤ x ∧ x < z2.heap.size)) x → x < G12 from fun x hx => hx.elim (fun k => by have := HP.out x k; have := HBle.out; omega) (fun k => by rw [← hG12]; exact k.2))
    have HPq := Lib.hid (show ∀ x, (fun x => P x ∨ (wr.heap.size ≤ x ∧ x < z2.heap.size)) x → P x ∨ wr.heap.size ≤ x from fun x hx => hx.imp id (·.1))
    obtain ⟨PG, hPG⟩ : ∃ Q, (fun x => P x ∨ (wr.heap.size ≤ x ∧ x < z2.heap.size)) = Q := ⟨_, rfl⟩
    rw [hPG] at HT HPz HPq
    rw [hG12] at HBX HG3 HGw
    rw [hG10] at HBX
    rw [hG12, hG10]
    clear HB12' hb3 b12 b13 HB10 HLB1 HLB2 HZ1 HZ2 t1 t2 HD1 HD2 hz1 hz2 g1 g2 x0 x1 x2 y0 y1 y2 hG12 hG10 hPG HLB HPi
    generalize ((z2.alloc (.cells #[.int .i64 ei, .bool eg, .slice eA en ec] 67)).alloc (.cells #[.int .i64 di, .bool dg, .slice dA dn dc] 67)) = Z3 at *
    have HC := Lib.hid (fcmp_any HT.out.2 HT.out.1 (fun x hx => by have := HPz.out x hx; have := HG3.out.2; omega) HNd.out.2.tri HNd.out.1.tri)
    have HMn := Lib.hid (minE_cmp HNd.out.1.tri HNd.out.2.tri)
    rw [HEe.out.1, HEe.out.2] at HMn
    simp only [Bd.v, Bd.vals] at HC
    obtain ⟨v, hv⟩ : ∃ v, cmpB ⟨ei, eg, eA, en, ec, el⟩ ⟨di, dg, dA, dn, dc, dl⟩ = v := ⟨_, rfl⟩
    rw [hv] at HC HMn
    clear hv
    obtain ⟨x0, x1, x2⟩ := HBX.out.1.cells
    obtain ⟨y0, y1, y2⟩ := HBX.out.2.2.1.cells
    simp only at x0 x1 x2 y0 y1 y2
    by_cases hlt : v < 0
    focus
      have d1 : decide (v < 0) = true := decide_eq_true hlt
      have HMe := Lib.hid (HMn.out.1 hlt)
      go_upto_region 8 with (go_at_call 38; (with_reducible refine HC.out.mono ?_); rintro e z4 ⟨rfl, hg4⟩; have H4 := Lib.hid hg4.bel; clear hg4 x0 x1 x2 y0 y1 y2; obtain ⟨x0, x1, x2⟩ := (HBX.out.1.below H4.out).cells; obtain ⟨y0, y1, y2⟩ := (HBX.out.2.1.below H4.out).cells; obtain ⟨f0, f1, f2⟩ := (HBX.out.2.1.below H4.out).frozens; simp only at x0 x1 x2 y0 y1 y2)
      have S1 := (HBX.out.2.1.below H4.out).set3 (⟨ei, eg, eA, en, ec, el⟩ : Bd)
      have hz4 := H4.out.size
      have HB13 := Lib.hid S1.1
      have HLw := Lib.hid ((HBX.out.2.2.2.below H4.out).gro S1.2 (by have := HBle.out; have := HG3.out.1; omega))
      have HBW := Lib.hid ((HZ3.out.trans (H4.out.mono HZ3.out.size)).grown S1.2 (Nat.le_trans HZ3.out.size hz4) (fun j e => by injection e with e; have := HG3.out.1; omega))
      have HEA := Lib.hid (HT.out.2.keep (Q := PG) (w' := ((z4.setCell ⟨G12 + 1, 0, none⟩ (.int .i64 ei)).setCell ⟨G12 + 1, 1, none⟩ (.bool eg)).setCell ⟨G12 + 1, 2, none⟩ (.slice eA en ec)) (fun x hx => ⟨hx, (S1.2.block x (by have := HPz.out x hx; have := HG3.out.2; omega) (fun e => by injection e with e; have := HPz.out x hx; omega)).trans (H4.out.block x (by have := HPz.out x hx; have := HG3.out.2; omega))⟩))
      have HG8 := Lib.hid (show G12 + 1 + 1 ≤ (((z4.setCell ⟨G12 + 1, 0, none⟩ (.int .i64 ei)).setCell ⟨G12 + 1, 1, none⟩ (.bool eg)).setCell ⟨G12 + 1, 2, none⟩ (.slice eA en ec)).heap.size by simp; have := HG3.out.2; omega)
      have HNe := Lib.hid HNd.out.2
      have HMe2 := Lib.hid (HMe.out.trans HEe.out.2.symm)
      simp only at HB13
      clear S1 hz4 H4 HBX HZ3 HT HG3 HNd HEe HC HMn HMe hlt d1 x0 x1 x2 y0 y1 y2 f0 f1 f2
      generalize ((z4.setCell ⟨G12 + 1, 0, none⟩ (.int .i64 ei)).setCell ⟨G12 + 1, 1, none⟩ (.bool eg)).setCell ⟨G12 + 1, 2, none⟩ (.slice eA en ec) = W8 at *
      obtain ⟨fi, rfl⟩ : ∃ s, s = ei := ⟨_, rfl⟩
      obtain ⟨fg, rfl⟩ : ∃ s, s = eg := ⟨_, rfl⟩
      obtain ⟨fA, rfl⟩ : ∃ s, s = eA := ⟨_, rfl⟩
      obtain ⟨fn, rfl⟩ : ∃ s, s = en := ⟨_, rfl⟩
      obtain ⟨fc, rfl⟩ : ∃ s, s = ec := ⟨_, rfl⟩
      obtain ⟨fl, rfl⟩ : ∃ s, s = el := ⟨_, rfl⟩
    rotate_left
    focus
      have d1 : decide (v < 0) = false := decide_eq_false hlt
      have HMe := Lib.hid (HMn.out.2 hlt)
      go_upto_region 8 with (go_at_call 38; (with_reducible refine HC.out.mono ?_); rintro e z4 ⟨rfl, hg4⟩; have H4 := Lib.hid hg4.bel; clear hg4 x0 x1 x2 y0 y1 y2)
      have hz4 := H4.out.size
      have HB13 := Lib.hid (HBX.out.2.1.below H4.out)
      have HLw := Lib.hid (HBX.out.2.2.2.below H4.out)
      have HBW := Lib.hid (HZ3.out.trans (H4.out.mono HZ3.out.size))
      have HEA := Lib.hid (HT.out.1.keep (Q := PG) (w' := z4) (fun x hx => ⟨hx, H4.out.block x (by have := HPz.out x hx; have := HG3.out.2; omega)⟩))
      have HG8 := Lib.hid (show G12 + 1 + 1 ≤ z4.heap.size by have := HG3.out.2; omega)
      have HNe := Lib.hid HNd.out.1
      have HMe2 := Lib.hid (HMe.out.trans HEe.out.1.symm)
      obtain ⟨W8, rfl⟩ : ∃ s, s = z4 := ⟨_, rfl⟩
      clear hz4 H4 HBX HZ3 HT HG3 HNd HEe HC HMn HMe hlt d1
      obtain ⟨fi, rfl⟩ : ∃ s, s = di := ⟨_, rfl⟩
      obtain ⟨fg, rfl⟩ : ∃ s, s = dg := ⟨_, rfl⟩
      obtain ⟨fA, rfl⟩ : ∃ s, s = dA := ⟨_, rfl⟩
      obtain ⟨fn, rfl⟩ : ∃ s, s = dn := ⟨_, rfl⟩
      obtain ⟨fc, rfl⟩ : ∃ s, s = dc := ⟨_, rfl⟩
      obtain ⟨fl, rfl⟩ : ∃ s, s = dl := ⟨_, rfl⟩
    rotate_left
    all_goals
      have HK := Lib.hid (HF.out b1 b2 W8)
      have HStp := Lib.hid (HI.out.1.ms.step (e := Bd.ed ⟨fi, fg, fA, fn, fc, fl⟩) HNf.out.1.1 HNf.out.1.2 HNf.out.2.1 HNf.out.2.2 (by rw [HEd.out]; exact HMe2.out) _ rfl)
      rw [HEd.out, HB12.out.1, HB12.out.2] at HStp
      have HRow := Lib.hid ((HI.out.1.row.keep HBW.out HPw.out).wide (Q := Or P (B + 1) W8) (fun b hb => hb.imp id (fun k => ⟨k.1, Nat.lt_of_lt_of_le k.2 HBW.out.size⟩)))
      have HLo := Lib.hid (HI.out.1.lo.keep (Q := fun x => (B + 1 ≤ x ∧ x < wr.heap.size) ∧ (Value.slice A2 m c2).ownBlock ≠ some x) (fun x hx => ⟨hx, HBW.out.block x hx.1.2⟩))
      have HFn := Lib.hid (show fn ≤ 33554432 by have h1 := HNe.out.szE HEA.out.lim.len; have h2 := HStp.out.1; have h3 := HM.out; simp only at h1; omega)
      obtain ⟨x0, x1, x2⟩ := HB13.out.cells
      obtain ⟨y0, y1, y2⟩ := HLw.out.cells
      simp only at x0 x1 x2 y0 y1 y2
      have tf : -1 ≤ fi ∧ fi ≤ 1 := by have := HNe.out.tri; unfold Bd.Tri at this; simp only at this; omega
      obtain ⟨tf1, tf2⟩ := tf
      have HStp2 := Lib.hid (fun z (hz : ∀ x, PG x → z.heap[x]? = W8.heap[x]?) (hsz : W8.heap.size ≤ z.heap.size) => step_fr (w := z) 1 (.inl rfl) (HEA.out.keep (Q := PG) (fun x hx => ⟨hx, hz x hx⟩)) (fun x hx => by have := HPz.out x hx; have := HG8.out; omega) HNe.out.tri (fun _ => HNe.out) HFn.out)
      simp only [Bd.v, Bd.vals] at HStp2
      have HGq := Lib.hid (Gd.of_sz HLo.out HEA.out HI.out.1.nrm HNe.out (by rw [HEd.out]; have := HI.out.1.ms.lob; rw [HEd.out] at this; exact this) HStp.out.1 HM.out)
      cases hw : wt b1 b2
      · rw [hw] at HK HStp
        have HMs := Lib.hid (show (Bd.ed ⟨fi, fg, fA, fn, fc, fl⟩ = .hi → MEnd wt La Lb M (qs.map edsR)) ∧ (Bd.ed ⟨fi, fg, fA, fn, fc, fl⟩ ≠ .hi → MS wt La Lb M (qs.map edsR) (succE (Bd.ed ⟨fi, fg, fA, fn, fc, fl⟩)) ∧ mu (succE (Bd.ed ⟨fi, fg, fA, fn, fc, fl⟩)) (La ++ Lb) < mu E (La ++ Lb)) by simpa using HStp.out.2)
        clear HStp hw
        by_cases c1 : 0 < fi
        · have d2 : decide (0 < fi) = true := decide_eq_true c1
          have HFi := Lib.hid (HMs.out.1 (Bd.ed_hi c1))
          have hbB : Below B w W8 := HI.out.1.bel.trans (HBW.out.mono HBle.out)
          have HbB := Lib.hid hbB
          clear hbB
          go_wp2_with (go_at_fn F; (with_reducible refine HK.out.mono ?_); rintro e z9 ⟨rfl, rfl⟩)
          go_ret
          exact ⟨_, _, _, qs, rfl, (HRow.out.set (fun b h1 h2 => .inr ⟨h1, h2⟩)).wide (fun b hb => hb.imp id (fun k => ⟨by have := k.1; omega, k.2⟩)), HI.out.1.gd, HFi.out, HbB.out⟩
        · have d2 : decide (0 < fi) = false := decide_eq_false c1
          have hne : Bd.ed ⟨fi, fg, fA, fn, fc, fl⟩ ≠ .hi := by unfold Bd.ed; simp only; rw [if_neg c1]; split <;> simp
          have HNx := Lib.hid (HMs.out.2 hne)
          clear hne
          go_wp2_with (first
            | (go_at_fn F; (with_reducible refine HK.out.mono ?_); rintro e z9 ⟨rfl, rfl⟩)
            | (go_at_call 64; (with_reducible refine (HStp2.out _ (fun _ _ => rfl) (Nat.le_refl _)).mono ?_); rintro e W10 ⟨⟨gi, gg, gA, gn', gc, gl⟩, rfl, hgt, hgn, hge, hgb⟩; have HQ := Lib.hid (And.intro hgt (And.intro hgn hge)); have HBq := Lib.hid hgb; have HLq := Lib.hid (HLw.out.below hgb); clear hgt hgn hge hgb y0 y1 y2; simp only [Bd.v, Bd.vals]; obtain ⟨y0, y1, y2⟩ := HLq.out.cells; obtain ⟨f0, f1, f2⟩ := HLq.out.frozens))
          have HS3 := Lib.hid (HLq.out.set3 (⟨gi, gg, gA, gn', gc, gl⟩ : Bd))
          dsimp only at HS3
          go_roundg (mu (succE (Bd.ed ⟨fi, fg, fA, fn, fc, fl⟩)) (La ++ Lb))
          case measure => rw [← HI.out.2, HEd.out]; exact HNx.out.2
          case rel =>
            have e1 := HBW.out.size
            have e2 := HBq.out.size
            have e3 := HS3.out.2.size
            have e4 := HI.out.1.le
            have hP8 : ∀ x, Or P (B + 1) W8 x → x < W8.heap.size := fun x hx => hx.elim (fun k => by have := HP.out x k; omega) (·.2)
            refine ⟨A2, m, c2, qs, ⟨gi, gg, gA, gn', gc, gl⟩, rfl, Lib.hid ⟨⟨HS3.out.1, ((HI.out.1.bel.trans (HBW.out.mono HBle.out)).trans (HBq.out.mono (by omega))).grown HS3.out.2 (by omega) (fun j e => by injection e with e; omega), by omega, HQ.out.1.keep (fun x hx => ⟨⟨⟨by have := hx.1; omega, Nat.lt_of_lt_of_le hx.2 e3⟩, ?_⟩, HS3.out.2.block x hx.2 (fun e => by injection e with e; have := hx.1; omega)⟩), HQ.out.2.1, ((HRow.out.keep HBq.out hP8).keepP (fun b k1 k2 => HS3.out.2.block b k2 (fun e => by injection e with e; omega)) (fun b hb => HS3.out.2.block b (hb.elim (fun k => by have := HP.out b k; omega) (fun k => by have := k.2; omega)) (fun e => by injection e with e; rcases hb with k | k; have := HP.out b k; omega; have := k.1; omega))).wide (fun b hb => hb.imp id (fun k => ⟨k.1, by have := k.2; omega⟩)), HI.out.1.gd, by rw [HQ.out.2.2, ← succE_sh]; exact HNx.out.1⟩, by rw [HQ.out.2.2, ← succE_sh]⟩⟩
            rcases HRow.out.block with ⟨h1, _⟩ | ⟨g1, h1, h2, h3, h4⟩
            · subst h1; simp [Value.ownBlock]
            · rw [h4]; intro e; injection e with e; have := hx.1; omega
      · rw [hw] at HK HStp
        have HMs := Lib.hid (show (Bd.ed ⟨fi, fg, fA, fn, fc, fl⟩ = .hi → MEnd wt La Lb M ((qs ++ [((⟨li, lg, lA, ln, lc, ll⟩ : Bd), (⟨fi, fg, fA, fn, fc, fl⟩ : Bd))]).map edsR)) ∧ (Bd.ed ⟨fi, fg, fA, fn, fc, fl⟩ ≠ .hi → MS wt La Lb M ((qs ++ [((⟨li, lg, lA, ln, lc, ll⟩ : Bd), (⟨fi, fg, fA, fn, fc, fl⟩ : Bd))]).map edsR) (succE (Bd.ed ⟨fi, fg, fA, fn, fc, fl⟩)) ∧ mu (succE (Bd.ed ⟨fi, fg, fA, fn, fc, fl⟩)) (La ++ Lb) < mu E (La ++ Lb)) by
          have h9 := HStp.out.2
          rw [if_pos rfl] at h9
          have e9 : (qs ++ [((⟨li, lg, lA, ln, lc, ll⟩ : Bd), (⟨fi, fg, fA, fn, fc, fl⟩ : Bd))]).map edsR = qs.map edsR ++ [(E, Bd.ed ⟨fi, fg, fA, fn, fc, fl⟩)] := by rw [List.map_append, ← HEd.out]; rfl
          rw [e9]
          exact h9)
        have HGn := Lib.hid (show ∀ q ∈ qs ++ [((⟨li, lg, lA, ln, lc, ll⟩ : Bd), (⟨fi, fg, fA, fn, fc, fl⟩ : Bd))], Gd q from fun q hq => by
          rcases List.mem_append.1 hq with h1 | h1
          · exact HI.out.1.gd q h1
          · rw [List.mem_singleton.1 h1]; exact HGq.out)
        have hml : m + 1 ≤ maxRg := by have h8 := HI.out.1.ms.cnt; rw [List.length_map, HI.out.1.row.len] at h8; have := HN9.out; have := HLe.out; unfold maxRg; omega
        have HMl := Lib.hid hml
        have hB8 : B + 1 ≤ W8.heap.size := by have := HI.out.1.le; have := HBW.out.size; omega
        have HB8 := Lib.hid hB8
        have HKid := Lib.hid (show Rg.At W8 (fun b => Or P (B + 1) W8 b ∧ (Value.slice A2 m c2).ownBlock ≠ some b) (⟨li, lg, lA, ln, lc, ll⟩, ⟨fi, fg, fA, fn, fc, fl⟩) from
          ⟨HLo.out.wide (fun x hx => ⟨.inr ⟨hx.1.1, Nat.lt_of_lt_of_le hx.1.2 HBW.out.size⟩, hx.2⟩), HEA.out.wide (fun x hx => ⟨(HPq.out x hx).imp id (fun k => ⟨by have := HI.out.1.le; omega, by have := HPz.out x hx; have := HG8.out; omega⟩), by
            rcases HI.out.1.row.block with ⟨h1, _⟩ | ⟨g1, h1, h2, h3, h4⟩
            · subst h1; simp [Value.ownBlock]
            · rw [h4]; intro e; injection e with e; rcases HPq.out x hx with k | k
              · have := HP.out x k; omega
              · omega⟩)⟩)
        have HPo := Lib.hid (show ∀ x, PG x → (Value.slice A2 m c2).ownBlock ≠ some x from fun x hx => by
          rcases HI.out.1.row.block with ⟨h1, _⟩ | ⟨g1, h1, h2, h3, h4⟩
          · subst h1; simp [Value.ownBlock]
          · rw [h4]; intro e; injection e with e; rcases HPq.out x hx with k | k
            · have := HP.out x k; omega
            · omega)
        have HO13 := Lib.hid (show (Value.slice A2 m c2).ownBlock ≠ some (G12 + 1) by
          rcases HI.out.1.row.block with ⟨h1, _⟩ | ⟨g1, h1, h2, h3, h4⟩
          · subst h1; simp [Value.ownBlock]
          · rw [h4]; intro e; injection e with e; have := HGw.out; omega)
        clear HStp hw hml hB8
        by_cases c1 : 0 < fi
        · have d2 : decide (0 < fi) = true := decide_eq_true c1
          have HFi := Lib.hid (HMs.out.1 (Bd.ed_hi c1))
          go_wp2_with (first
            | (go_at_fn F; (with_reducible refine HK.out.mono ?_); rintro e z9 ⟨rfl, rfl⟩)
            | (at_builtin; refine wpList_app1P rfl _ _ rfl rfl rfl HRow.out HB8.out (fun b hb => by have := HP.out b hb; omega) HKid.out HMl.out ?_; intro A6 c6 w8 hr8 hb8 hs8 hk8; have HR8 := Lib.hid hr8; have HB9 := Lib.hid hb8; have HS8 := Lib.hid hs8; have HX8 := Lib.hid (show EBox w8 (G12 + 1) ⟨fi, fg, fA, fn, fc, fl⟩ from (hk8 (G12 + 1) HB13.out.lt HO13.out).trans HB13.out); have HL8 := Lib.hid (show EBox w8 B ⟨li, lg, lA, ln, lc, ll⟩ from (hb8.block B (Nat.lt_succ_self B)).trans HLw.out); have HK8 := Lib.hid (show ∀ x, PG x → w8.heap[x]? = W8.heap[x]? from fun x hx => hk8 x (by have := HPz.out x hx; have := HG8.out; omega) (HPo.out x hx)); clear hr8 hb8 hs8 hk8 x0 x1 x2 y0 y1 y2; obtain ⟨x0, x1, x2⟩ := HX8.out.cells; obtain ⟨y0, y1, y2⟩ := HL8.out.cells; simp only at x0 x1 x2 y0 y1 y2))
          go_ret
          exact ⟨_, _, _, _, rfl, (HR8.out.set (fun b h1 h2 => .inr ⟨h1, h2⟩)).wide (fun b hb => hb.imp id (fun k => ⟨by have := k.1; omega, k.2⟩)), HGn.out, HFi.out, (HI.out.1.bel.trans (HBW.out.mono HBle.out)).trans (HB9.out.mono (by omega))⟩
        · have d2 : decide (0 < fi) = false := decide_eq_false c1
          have hne : Bd.ed ⟨fi, fg, fA, fn, fc, fl⟩ ≠ .hi := by unfold Bd.ed; simp only; rw [if_neg c1]; split <;> simp
          have HNx := Lib.hid (HMs.out.2 hne)
          clear hne
          go_wp2_with (first
            | (go_at_fn F; (with_reducible refine HK.out.mono ?_); rintro e z9 ⟨rfl, rfl⟩)
            | (at_builtin; refine wpList_app1P rfl _ _ rfl rfl rfl HRow.out HB8.out (fun b hb => by have := HP.out b hb; omega) HKid.out HMl.out ?_; intro A6 c6 w8 hr8 hb8 hs8 hk8; have HR8 := Lib.hid hr8; have HB9 := Lib.hid hb8; have HS8 := Lib.hid hs8; have HX8 := Lib.hid (show EBox w8 (G12 + 1) ⟨fi, fg, fA, fn, fc, fl⟩ from (hk8 (G12 + 1) HB13.out.lt HO13.out).trans HB13.out); have HL8 := Lib.hid (show EBox w8 B ⟨li, lg, lA, ln, lc, ll⟩ from (hb8.block B (Nat.lt_succ_self B)).trans HLw.out); have HK8 := Lib.hid (show ∀ x, PG x → w8.heap[x]? = W8.heap[x]? from fun x hx => hk8 x (by have := HPz.out x hx; have := HG8.out; omega) (HPo.out x hx)); clear hr8 hb8 hs8 hk8 x0 x1 x2 y0 y1 y2; obtain ⟨x0, x1, x2⟩ := HX8.out.cells; obtain ⟨y0, y1, y2⟩ := HL8.out.cells; simp only at x0 x1 x2 y0 y1 y2)
            | (go_at_call 64; (with_reducible refine (HStp2.out _ HK8.out HS8.out).mono ?_); rintro e W10 ⟨⟨gi, gg, gA, gn', gc, gl⟩, rfl, hgt, hgn, hge, hgb⟩; have HQ := Lib.hid (And.intro hgt (And.intro hgn hge)); have HBq := Lib.hid hgb; have HLq := Lib.hid (HL8.out.below hgb); clear hgt hgn hge hgb y0 y1 y2; simp only [Bd.v, Bd.vals]; obtain ⟨y0, y1, y2⟩ := HLq.out.cells; obtain ⟨f0, f1, f2⟩ := HLq.out.frozens))
          have HS3 := Lib.hid (HLq.out.set3 (⟨gi, gg, gA, gn', gc, gl⟩ : Bd))
          dsimp only at HS3
          go_roundg (mu (succE (Bd.ed ⟨fi, fg, fA, fn, fc, fl⟩)) (La ++ Lb))
          case measure => rw [← HI.out.2, HEd.out]; exact HNx.out.2
          case rel =>
            have e1 := HBW.out.size
            have e2 := HBq.out.size
            have e3 := HS3.out.2.size
            have e4 := HI.out.1.le
            have e5 := HS8.out
            have hP8 : ∀ x, Or P (B + 1) w8 x → x < w8.heap.size := fun x hx => hx.elim (fun k => by have := HP.out x k; omega) (·.2)
            refine ⟨A6, m + 1, c6, _, ⟨gi, gg, gA, gn', gc, gl⟩, rfl, Lib.hid ⟨⟨HS3.out.1, (((HI.out.1.bel.trans (HBW.out.mono HBle.out)).trans (HB9.out.mono (by omega))).trans (HBq.out.mono (by omega))).grown HS3.out.2 (by omega) (fun j e => by injection e with e; omega), by omega, HQ.out.1.keep (fun x hx => ⟨⟨⟨by have := hx.1; omega, Nat.lt_of_lt_of_le hx.2 e3⟩, ?_⟩, HS3.out.2.block x hx.2 (fun e => by injection e with e; have := hx.1; omega)⟩), HQ.out.2.1, ((HR8.out.keep HBq.out hP8).keepP (fun b k1 k2 => HS3.out.2.block b k2 (fun e => by injection e with e; omega)) (fun b hb => HS3.out.2.block b (hb.elim (fun k => by have := HP.out b k; omega) (fun k => by have := k.2; omega)) (fun e => by injection e with e; rcases hb with k | k; have := HP.out b k; omega; have := k.1; omega))).wide (fun b hb => hb.imp id (fun k => ⟨k.1, by have := k.2; omega⟩)), HGn.out, by rw [HQ.out.2.2, ← succE_sh]; exact HNx.out.1⟩, by rw [HQ.out.2.2, ← succE_sh]⟩⟩
            rcases HR8.out.block with ⟨h1, _⟩ | ⟨g1, h1, h2, h3, h4⟩
            · subst h1; simp [Value.ownBlock]
            · rw [h4]; intro e; injection e with e; have := hx.1; omega
end Go.Proofs.YtpikjceodmepiaaGreatDoor

