/-
  The types of this program, as the rules ask of them: closed facts. No condition.
-/
import Derived.Test.YtccgaemmdikhcaaDoorOps2
import Derived.Test.YtccgaemmdikhcaaDoorProg
import Derived.Test.YtccgaemmdikhcaaDoorNum
namespace Go.Proofs.YtccgaemmdikhcaaDoor
open Go Go.QF
theorem mx : Tryd.prog.follows .mixedOrders = true := by kernel_rfl
theorem sl_MM : SlT Tryd.prog 22 23 1 := slT_mk Tryd.underlying22 (by kernel_rfl)
theorem sl_I64 : SlT Tryd.prog 23 2 1 := slT_mk Tryd.underlying23 (by kernel_rfl)
theorem na_I64 : NaT Tryd.prog 23 := naT_mk Tryd.underlying23 rfl (by kernel_rfl)
theorem na_i64 : NaT Tryd.prog 2 := naT_mk Tryd.underlying2 rfl (by kernel_rfl)
theorem na_int : NaT Tryd.prog 3 := naT_mk Tryd.underlying3 rfl (by kernel_rfl)
theorem na_u8 : NaT Tryd.prog 5 := naT_mk Tryd.underlying5 rfl (by kernel_rfl)
theorem na_bool : NaT Tryd.prog 4 := naT_mk Tryd.underlying4 rfl (by kernel_rfl)
theorem it_i64 : IntT Tryd.prog 2 .i64 := Tryd.underlying2
theorem it_int : IntT Tryd.prog 3 .i64 := Tryd.underlying3
theorem it_u8 : IntT Tryd.prog 5 .u8 := Tryd.underlying5
theorem ze_I64 : ZeT Tryd.prog 23 (.slice none 0 0) 24 := zeT_mk (by kernel_rfl)
theorem ze_i64 : ZeT Tryd.prog 2 (.int .i64 0) 8 := zeT_mk (by kernel_rfl)
theorem ze_int : ZeT Tryd.prog 3 (.int .i64 0) 8 := zeT_mk (by kernel_rfl)
theorem ze_bool : ZeT Tryd.prog 4 (.bool false) 1 := zeT_mk (by kernel_rfl)
theorem ag_offs : AgT Tryd.prog 121 8 := agT_mk Tryd.underlying121 rfl (by kernel_rfl)
/-- The table of the wheel lies in its variable. -/
def OffH (h : Heap) : Prop := ∀ i u, (offs.map (Value.int .i64))[i]? = some u → cellH h ⟨0, i, none⟩ = some u
theorem OffH.ext {h h' : Heap} (H : OffH h) (he : Ext h h') : OffH h' := fun i u hu => cellH_ext (H i u hu) he
end Go.Proofs.YtccgaemmdikhcaaDoor
