import Derived.Shelf.Small.Bits
import Derived.Shelf.Unicode.ValidAny
import Derived.Lib.LaidU8T
import Derived.Test.YtgfeainpeplphaaDoorHw
namespace Go.Proofs.YtgfeainpeplphaaDoor
open Go.Shelf Go.RowKit Hb Ht
/-! ### utf8.ValidString at this program (the table of numbers began as the kit's tool's output) -/
def Tryd.laysValid_ren : Go.Shelf.Ren := ⟨fun | 196 => 81 | 259 => 90 | n => n, fun | 9 => 9 | 4 => 4 | 3 => 3 | 5 => 5 | 12 => 12 | 119 => 121 | 0 => 0 | 46 => 110 | 139 => 124 | 138 => 123 | 53 => 22 | n => n, fun | 3 => 0 | 4 => 1 | n => n⟩
theorem Tryd.laysValid : Go.Proofs.Lays.n196 Tryd.prog Tryd.laysValid_ren := {
  mixed := by kernel_rfl
  f196 := Tryd.func81.trans (congrArg some (by kernel_rfl))
  f259 := Tryd.func90.trans (congrArg some (by kernel_rfl))
  t0 := Tryd.underlying0
  a0 := Tryd.isAgg0
  z0 := Tryd.sizeOf0
  v0 := Tryd.zeroValue0
  t3 := Tryd.underlying3
  a3 := Tryd.isAgg3
  z3 := Tryd.sizeOf3
  v3 := Tryd.zeroValue3
  t4 := Tryd.underlying4
  a4 := Tryd.isAgg4
  z4 := Tryd.sizeOf4
  v4 := Tryd.zeroValue4
  t5 := Tryd.underlying5
  a5 := Tryd.isAgg5
  z5 := Tryd.sizeOf5
  v5 := Tryd.zeroValue5
  t9 := Tryd.underlying9
  a9 := Tryd.isAgg9
  z9 := Tryd.sizeOf9
  v9 := Tryd.zeroValue9
  t12 := Tryd.underlying12
  a12 := Tryd.isAgg12
  z12 := Tryd.sizeOf12
  v12 := Tryd.zeroValue12
  t46 := Tryd.underlying110
  a46 := Tryd.isAgg110
  z46 := Tryd.sizeOf110
  v46 := Tryd.zeroValue110
  t53 := Tryd.underlying22
  a53 := Tryd.isAgg22
  z53 := Tryd.sizeOf22
  v53 := Tryd.zeroValue22
  t119 := Tryd.underlying121
  a119 := Tryd.isAgg121
  z119 := Tryd.sizeOf121
  t138 := Tryd.underlying123
  a138 := Tryd.isAgg123
  z138 := Tryd.sizeOf123
  v138 := Tryd.zeroValue123
  t139 := Tryd.underlying124
  a139 := Tryd.isAgg124
  z139 := Tryd.sizeOf124
  v139 := Tryd.zeroValue124
  g3 := by kernel_rfl
  g4 := by kernel_rfl }
def VTabs (w : World) : Prop := Lib.Utf8Tabs (Tryd.laysValid_ren.g 3) (Tryd.laysValid_ren.g 4) w
theorem valid_any (s : ByteArray) (w : World) (hs : s.size ≤ maxLen) (hT : VTabs w) :
    Calls Tryd.prog 81 #[.string s] w fun e w' => e = .returned (.bool (Lib.validD s.data.toList)) ∧ Below w.heap.size w w' := Any.utf8_ValidString Tryd.laysValid s w hs hT
theorem VTabs.below {w0 w : World} (h : VTabs w0) (hb : Below w0.heap.size w0 w) : VTabs w := by
  have key : ∀ p u, w0.cell? p = some u → w.cell? p = some u := fun p u hp => (hb.cell (World.block_lt_of_cell? _ _ hp)).trans hp
  exact ⟨fun c hc => key _ _ (h.1 c hc), fun i hi => ⟨key _ _ (h.2 i hi).1, key _ _ (h.2 i hi).2⟩⟩
theorem VTabs.u0 {w0 : World} (h : VTabs w0) : U0 w0 := fun w' hb s hs => valid_any s w' hs (h.below hb)
theorem VTabs.ok {w0 : World} (h : VTabs w0) : UOk w0 w0 := ⟨Below.refl _ _, h.u0⟩
end Go.Proofs.YtgfeainpeplphaaDoor
