import Derived.Test.YtfdcponamkfcaaaDoorNj
import Derived.Test.YtfdcponamkfcaaaDoorOl
import Derived.Test.YtfdcponamkfcaaaDoorNg
import Derived.Test.YtfdcponamkfcaaaDoorNi
namespace Go.Proofs.YtfdcponamkfcaaaDoor
open Go.RowKit Ho Go.Maps Go.Shelf Go.Sort Hb
set_option linter.unusedVariables false
set_option linter.unusedSimpArgs false
/-! ### the library's contracts at this program -/
theorem sort_ok : SortOk := by
  intro blk off cap d w hH hblk hsz
  have hcon := AnyQ.slices_SortFunc Tryd.sortO 3 Tryd.isAgg23 Tryd.sizeOf23 encO (fun _ => rfl) (fun x v hv => by simp [encO] at hv; rcases hv with rfl | rfl | rfl <;> rfl) cmpO swoO 41 #[] blk off cap d w
    (enters_of Tryd.func41 (by kernel_rfl) rfl) (fun _ _ _ _ x y => closure_cmp (fun a b w1 => Tryd.strings_Compare a b w1) x y _) hH hblk hsz
  exact hcon
theorem clone_ok : CloneOk := fun b es clock w hb => AnyW.maps_Clone Tryd.cloneO b es clock w hb
end Go.Proofs.YtfdcponamkfcaaaDoor
