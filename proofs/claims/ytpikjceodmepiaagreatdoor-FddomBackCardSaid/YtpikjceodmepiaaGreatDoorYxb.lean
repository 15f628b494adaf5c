import Derived.Test.YtpikjceodmepiaaGreatDoorYzb
import Derived.Test.YtpikjceodmepiaaGreatDoorYyb
import Derived.Shelf.Small.Bits
import Derived.Test.YtpikjceodmepiaaGreatDoorRows
import Derived.Test.YtpikjceodmepiaaGreatDoorMathb
import Derived.WalkKit
import Derived.Deep.QuietTactic
import Derived.BigQuiet
import Derived.Deep.RegionHeld3
import Derived.Deep.DrawnRows
import Derived.Deep.DeepCutAuto
import Derived.Deep.CutBlock
import Derived.Test.YtpikjceodmepiaaGreatDoorRegb
import Derived.Laws.BytesArg
import Derived.Laws.AppendOwnNone
import Derived.ProofKit
import Derived.OpenShut
import Derived.JoinedCond
import Derived.JoinedOf
import Derived.JoinedAt
import Derived.ChangeSame
import Derived.ChangeSlices
import Derived.RowKit3
import Derived.Carry
import Derived.Lib.SmallJoins
import Derived.Deep.LoopGhost
import Derived.Maps.AppendAt
import Derived.IntWalk
set_option linter.unusedVariables false
set_option linter.unusedSimpArgs false
set_option linter.unusedVariables false
set_option linter.unusedSimpArgs false
namespace Go.Proofs.YtpikjceodmepiaaGreatDoor
open Go.RowKit Hb
/-- an append of what came in onto a row of the call's own -/
theorem wp_append_rd {o : Oper} {a : Act} {K : Act → World → Prop} {Q : Exit → Act → World → Prop} {w : World} (s x : Operand)
    (ho : o.op = .call { callee := .builtin .append, args := #[s, x], argTypes := #[54, 54] })
    {base B : Nat} {A A0 : Option Addr} {n0 c0 m c : Nat} {l0 l : List Nat} (hs : a.eval s = .slice A0 n0 c0) (hown : OwnU w base A0 n0 c0 (u32s l0)) (hx : a.eval x = .slice A m c) (hA : A = none → c = 0) (hrd : SlU w B A m c l)
    (hm : n0 + m ≤ 67108864) (hbase : base ≤ w.heap.size)
    (h : ∀ A' c' w', OwnU w' base A' (n0 + m) c' (u32s (l0 ++ l)) → Below base w w' → K (a.put o.dst (.slice A' (n0 + m) c')) w') : o.wp Tryz.prog a w K Q := by
  obtain ⟨i0, hi, hz0, hz1, hz2⟩ := info_parts infoU
  cases A with
  | none =>
    have hm0 : m = 0 := by
      rcases Nat.eq_zero_or_pos m with h0 | h0
      · exact h0
      · obtain ⟨b, o, h1, _⟩ := hrd.at_ h0; cases h1
    have hc0 := hA rfl
    subst hm0; subst hc0
    have hl : l = [] := List.length_eq_zero_iff.1 hrd.len
    subst hl
    have hrun := run_append_owned_none (P := Tryz.prog) (w := w) base 54 o.type 101 i0 1 Tryz.underlying54 hi _ n0 (u32s l0) hown
    unfold Oper.wp
    simp [execOp, ho, resolve, invoke, builtin, hs, hx, hrun, Result.andThen]
    exact h A0 c0 w (by rw [List.append_nil]; exact hown) (Below.refl _ _)
  | some ad =>
    refine wp_append_own w s x 54 ho base 101 i0 (.int .u32 0) 1 4 Tryz.underlying54 hi hz0 hz1 hz2 rfl (by decide) _ n0 (u32s l0) hs hown ad m c (u32s l) hx (by rw [u32s_length, hrd.len]; simp) ?_ (u32s_one l) (by simp [maxLen]; omega) (by omega) hbase ?_
    · intro j u hj
      have hj2 : j < m := by
        rw [← hrd.len, ← u32s_length l]
        exact (List.getElem?_eq_some_iff.1 hj).1
      obtain ⟨b, o', h1, _, hc⟩ := hrd.at_ (by omega)
      obtain rfl := Option.some.inj h1
      rw [addr_add, hc j hj2, ← u32s_get (by rw [hrd.len]; exact hj2), hj]
    · intro v' w' hown' hg hv
      have hf : ∃ A' c', v' = .slice A' (n0 + m) c' := by
        rcases hown'.2 with ⟨h1, h2⟩ | ⟨g', cap, cur, h1, _⟩
        · exact ⟨none, 0, by rw [h1, h2]⟩
        · exact ⟨_, _, h1⟩
      obtain ⟨A', c', rfl⟩ := hf
      refine h A' c' w' (by have h3 := hown'; rw [u32s_append] at h3; exact h3) ⟨hg.os, hg.tape, hg.output, hg.size, fun j hj => hg.block j (by omega) ?_⟩
      rcases Own.form hown with ⟨rfl, _⟩ | ⟨g', rfl, h4, _⟩
      · simp [Value.ownBlock]
      · simp [Value.ownBlock]; omega
end Go.Proofs.YtpikjceodmepiaaGreatDoor
namespace Go.Proofs.YtpikjceodmepiaaGreatDoor
open Go.RowKit Hb
end Go.Proofs.YtpikjceodmepiaaGreatDoor
namespace Go.Proofs.YtpikjceodmepiaaGreatDoor
open Go.ChangeShapes Go.WideShapes Go.ChangeAt Go.RowKit Go.Joins Hb
theorem cellsU : Tryz.prog.cellsOf 101 = 1 := by kernel_rfl
theorem cellsInt : Tryz.prog.cellsOf 56 = 2 := by kernel_rfl
section
variable {H : Type} {enc : TypeId × Value → H} {P : Program}
end
set_option maxRecDepth 100000 in
/-- an argument of the type Int, opened -/
theorem open_Int {H : Type} {enc : TypeId × Value → H} {W : World} {base : Nat} {v : Value} {d : DataW H} {p : List MemPlace} (hval : Value.okWide Tryz.prog W .any base 56 v)
    (h : DataW.Trod enc Tryz.prog W 0 (fun _ => true) true 56 v d p) : ∃ (neg : Bool) (A : Option Addr) (n c : Nat) (l : List Nat), v = .agg #[.bool neg, .slice A n c] ∧ SlU W W.heap.size A n c l ∧ (A = none → c = 0) := by
  obtain ⟨v0, v1, y0, y1, m, rfl, _, _, h0, h1⟩ := open_agg2 Tryz.underlying56 (by kernel_rfl) cellsInt hval h
  obtain ⟨neg, e0, _⟩ := DataW.trod_bool Tryz.underlying4 h0
  simp at e0
  subst e0
  rcases open_ints Tryz.underlying54 Tryz.underlying101 cellsU h1 with ⟨e1, _⟩ | ⟨a, n, c, zs, e1, _, hnc, hcm, hz, _, hcell, hwf⟩
  · simp at e1
    subst e1
    exact ⟨neg, none, 0, 0, [], rfl, SlU.nil _ _ _ _ (by simp [maxLen]), fun _ => rfl⟩
  · simp at e1
    subst e1
    simp only [if_true] at hz
    have hw : ∀ i, i < c → 0 ≤ zs.getD i 0 ∧ zs.getD i 0 < 4294967296 := by
      intro i hi
      have hm : zs.getD i 0 ∈ zs := by
        rw [List.getD_eq_getElem?_getD, List.getElem?_eq_getElem (by omega)]
        exact List.getElem_mem _
      have := hwf _ hm
      clear hm
      generalize zs.getD i 0 = zz at *
      simp [Lit.wf, IntKind.min, IntKind.max, IntKind.signed, IntKind.bits] at this
      omega
    refine ⟨neg, some a, n, c, (zs.take n).map Int.toNat, rfl, ⟨by simp; omega, hnc, hcm, ?_, ?_⟩, fun h => by cases h⟩
    · intro x hx
      obtain ⟨z, hz1, rfl⟩ := List.mem_map.1 hx
      obtain ⟨i, hi, rfl⟩ := List.getElem_of_mem hz1
      rw [List.length_take] at hi
      have h5 := hw i (by omega)
      have e : zs.getD i 0 = zs[i]'(by omega) := by rw [List.getD_eq_getElem?_getD, List.getElem?_eq_getElem (by omega)]; rfl
      rw [List.getElem_take, ← e]
      show (zs.getD i 0).toNat < 4294967296
      omega
    · intro hne
      have hn : 0 < n := by
        rcases Nat.eq_zero_or_pos n with h | h
        · exfalso; apply hne; subst h; simp [u32s]
        · exact h
      have g0 := hcell 0 (by omega)
      obtain ⟨b, off, spot⟩ := a
      have hspot : spot = none := by simpa [Addr.add] using World.cell?_spot g0
      subst hspot
      refine ⟨b, off, rfl, ?_, fun i u hu => ?_⟩
      · have := World.block_lt_of_cell? _ _ g0
        simpa [Addr.add] using this
      · have hi : i < n := by
          have := (List.getElem?_eq_some_iff.1 hu).1
          rw [u32s_length, List.length_map, List.length_take] at this
          omega
        have h2 := hcell i (by omega)
        rw [addr_add] at h2
        rw [h2, ← hu, u32s_get (by simp; omega)]
        congr 2
        have h3 := hw i (by omega)
        have e : zs.getD i 0 = zs[i]'(by omega) := by rw [List.getD_eq_getElem?_getD, List.getElem?_eq_getElem (by omega)]; rfl
        have e2 : ((zs.take n).map Int.toNat).getD i 0 = (zs[i]'(by omega)).toNat := by
          rw [List.getD_eq_getElem?_getD, List.getElem?_map, List.getElem?_take_of_lt hi, List.getElem?_eq_getElem (by omega)]; rfl
        rw [e2, e]
        rw [e] at h3
        omega
end Go.Proofs.YtpikjceodmepiaaGreatDoor
namespace Go.Proofs.YtpikjceodmepiaaGreatDoor
open Go.RowKit Hb
section
variable {w0 w w' : World} {vs : List VE} {v : VE}
end
section
variable {w0 w w' : World} {vs : List VE} {v : VE}
end
end Go.Proofs.YtpikjceodmepiaaGreatDoor
namespace Go.Proofs.YtpikjceodmepiaaGreatDoor
open Go.RowKit Hb
section
variable {w : World} {A A' : Option Addr} {n c n' c' : Nat} {l m : List Nat} {na nb : Bool} {x y z : Int}
end
end Go.Proofs.YtpikjceodmepiaaGreatDoor
namespace Go.Proofs.YtpikjceodmepiaaGreatDoor
open Go.RowKit Hb
section
variable {w : World} {A A' : Option Addr} {n c n' c' : Nat} {l m : List Nat} {na nb : Bool} {x y z1 z2 : Int}
end
end Go.Proofs.YtpikjceodmepiaaGreatDoor
namespace Go.Proofs.YtpikjceodmepiaaGreatDoor
open Go.RowKit Hb
end Go.Proofs.YtpikjceodmepiaaGreatDoor
namespace Go.Proofs.YtpikjceodmepiaaGreatDoor
open Go.RowKit Hb
end Go.Proofs.YtpikjceodmepiaaGreatDoor
namespace Go.Proofs.YtpikjceodmepiaaGreatDoor
open Go.RowKit Hb
section
variable {P : Program} {ops : Array Oper} {Q : Exit → Act → World → Prop} {md : Region.Mode} {S : World → Prop} {st : Nat}
end
end Go.Proofs.YtpikjceodmepiaaGreatDoor

