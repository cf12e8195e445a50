/-
  More types of this program, as the rules ask of them: closed facts. No condition.
-/
import Derived.Test.YtccgaemmdikhcaaDoorBox
import Derived.Test.YtccgaemmdikhcaaDoorTy
namespace Go.Proofs.YtccgaemmdikhcaaDoor
open Go Go.QF
theorem sl_BL : SlT Tryd.prog 29 41 5 := slT_mk Tryd.underlying29 (by kernel_rfl)
theorem sl_CL : SlT Tryd.prog 34 44 5 := slT_mk Tryd.underlying34 (by kernel_rfl)
theorem sl_A5L : SlT Tryd.prog 32 65 5 := slT_mk Tryd.underlying32 (by kernel_rfl)
theorem na_MM : NaT Tryd.prog 22 := naT_mk Tryd.underlying22 rfl (by kernel_rfl)
theorem na_BL : NaT Tryd.prog 29 := naT_mk Tryd.underlying29 rfl (by kernel_rfl)
theorem ag_Jor : AgT Tryd.prog 31 3 := agT_mk Tryd.underlying31 rfl (by kernel_rfl)
theorem ag_Blk : AgT Tryd.prog 41 5 := agT_mk Tryd.underlying41 rfl (by kernel_rfl)
theorem ag_Con : AgT Tryd.prog 44 5 := agT_mk Tryd.underlying44 rfl (by kernel_rfl)
theorem ag_A5 : AgT Tryd.prog 65 5 := agT_mk Tryd.underlying65 rfl (by kernel_rfl)
theorem un_A5 : Tryd.prog.underlying 65 = some (.array 5 5) := Tryd.underlying65
theorem un_bool : Tryd.prog.underlying 4 = some .bool := Tryd.underlying4
theorem ze_Jor : ZeT Tryd.prog 31 (.agg #[.int .i64 0, .slice none 0 0, .slice none 0 0]) 56 := zeT_mk (by kernel_rfl)
theorem ze_Blk : ZeT Tryd.prog 41 (.agg #[.int .i64 0, .int .i64 0, .int .i64 0, .int .i64 0, .int .i64 0]) 40 := zeT_mk (by kernel_rfl)
theorem ze_Con : ZeT Tryd.prog 44 (.agg #[.int .i64 0, .int .i64 0, .int .i64 0, .bool false, .int .i64 0]) 40 := zeT_mk (by kernel_rfl)
theorem ze_A5 : ZeT Tryd.prog 65 (.agg #[.int .u8 0, .int .u8 0, .int .u8 0, .int .u8 0, .int .u8 0]) 5 := zeT_mk (by kernel_rfl)
theorem fd_Jor0 : FdT Tryd.prog 31 0 0 2 := ⟨_, _, Tryd.underlying31, rfl, rfl, rfl⟩
theorem fd_Jor1 : FdT Tryd.prog 31 1 1 22 := ⟨_, _, Tryd.underlying31, rfl, rfl, rfl⟩
theorem fd_Jor2 : FdT Tryd.prog 31 2 2 29 := ⟨_, _, Tryd.underlying31, rfl, rfl, rfl⟩
theorem fd_Blk0 : FdT Tryd.prog 41 0 0 3 := ⟨_, _, Tryd.underlying41, rfl, rfl, rfl⟩
theorem fd_Blk1 : FdT Tryd.prog 41 1 1 3 := ⟨_, _, Tryd.underlying41, rfl, rfl, rfl⟩
theorem fd_Blk2 : FdT Tryd.prog 41 2 2 2 := ⟨_, _, Tryd.underlying41, rfl, rfl, rfl⟩
theorem fd_Blk3 : FdT Tryd.prog 41 3 3 2 := ⟨_, _, Tryd.underlying41, rfl, rfl, rfl⟩
theorem fd_Blk4 : FdT Tryd.prog 41 4 4 2 := ⟨_, _, Tryd.underlying41, rfl, rfl, rfl⟩
theorem fd_Con0 : FdT Tryd.prog 44 0 0 3 := ⟨_, _, Tryd.underlying44, rfl, rfl, rfl⟩
theorem fd_Con1 : FdT Tryd.prog 44 1 1 3 := ⟨_, _, Tryd.underlying44, rfl, rfl, rfl⟩
theorem fd_Con2 : FdT Tryd.prog 44 2 2 3 := ⟨_, _, Tryd.underlying44, rfl, rfl, rfl⟩
theorem fd_Con3 : FdT Tryd.prog 44 3 3 4 := ⟨_, _, Tryd.underlying44, rfl, rfl, rfl⟩
theorem fd_Con4 : FdT Tryd.prog 44 4 4 3 := ⟨_, _, Tryd.underlying44, rfl, rfl, rfl⟩
def tBlk : Nat := 41
def tCon : Nat := 44
theorem sl_U32 : SlT Tryd.prog 95 126 1 := slT_mk Tryd.underlying95 (by kernel_rfl)
theorem na_U32 : NaT Tryd.prog 95 := naT_mk Tryd.underlying95 rfl (by kernel_rfl)
theorem na_u32 : NaT Tryd.prog 126 := naT_mk Tryd.underlying126 rfl (by kernel_rfl)
theorem it_u32 : IntT Tryd.prog 126 .u32 := Tryd.underlying126
theorem ze_u32 : ZeT Tryd.prog 126 (.int .u32 0) 4 := zeT_mk (by kernel_rfl)
theorem it_u64 : IntT Tryd.prog 124 .u64 := Tryd.underlying124
theorem ag_Z : AgT Tryd.prog 97 2 := agT_mk Tryd.underlying97 rfl (by kernel_rfl)
theorem ze_Z : ZeT Tryd.prog 97 (.agg #[.bool false, .slice none 0 0]) 32 := zeT_mk (by kernel_rfl)
theorem fd_Z0 : FdT Tryd.prog 97 0 0 4 := ⟨_, _, Tryd.underlying97, rfl, rfl, rfl⟩
theorem fd_Z1 : FdT Tryd.prog 97 1 1 95 := ⟨_, _, Tryd.underlying97, rfl, rfl, rfl⟩
theorem sl_ZS : SlT Tryd.prog 119 97 2 := slT_mk Tryd.underlying119 (by kernel_rfl)
theorem na_ZS : NaT Tryd.prog 119 := naT_mk Tryd.underlying119 rfl (by kernel_rfl)
theorem sl_ZZ : SlT Tryd.prog 92 119 1 := slT_mk Tryd.underlying92 (by kernel_rfl)
end Go.Proofs.YtccgaemmdikhcaaDoor
