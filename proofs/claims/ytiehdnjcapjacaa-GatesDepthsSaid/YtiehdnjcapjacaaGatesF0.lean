/- Facts on the types of the program. -/
import Derived.Test.YtiehdnjcapjacaaGatesG0
import Derived.Test.YtiehdnjcapjacaaProg
namespace Go.Proofs.Ytiehdnjcapjacaa
open Go Go.AW Go.Proofs

theorem ar35 : TY.array Try.prog 35 = some (8, 3, 1) := by kernel_rfl
theorem ar54 : TY.array Try.prog 54 = some (2, 3, 1) := by kernel_rfl
theorem fl38_0 : TY.fld Try.prog 38 0 = some (0, 3) := by kernel_rfl
theorem fl38_1 : TY.fld Try.prog 38 1 = some (1, 3) := by kernel_rfl
theorem fl38_2 : TY.fld Try.prog 38 2 = some (2, 3) := by kernel_rfl
theorem fl57_0 : TY.fld Try.prog 57 0 = some (0, 5) := by kernel_rfl
theorem fl57_1 : TY.fld Try.prog 57 1 = some (1, 5) := by kernel_rfl
theorem fl57_2 : TY.fld Try.prog 57 2 = some (2, 5) := by kernel_rfl
theorem ii3 : TY.isInt Try.prog 3 = some .i64 := by kernel_rfl
theorem ii43 : TY.isInt Try.prog 43 = some .u16 := by kernel_rfl
theorem ii5 : TY.isInt Try.prog 5 = some .u8 := by kernel_rfl
theorem ok10 : callOK Try.prog 10 = true := by kernel_rfl
theorem ok11 : callOK Try.prog 11 = true := by kernel_rfl
theorem ok12 : callOK Try.prog 12 = true := by kernel_rfl
theorem ok13 : callOK Try.prog 13 = true := by kernel_rfl
theorem ok14 : callOK Try.prog 14 = true := by kernel_rfl
theorem ok15 : callOK Try.prog 15 = true := by kernel_rfl
theorem ok16 : callOK Try.prog 16 = true := by kernel_rfl
theorem ok17 : callOK Try.prog 17 = true := by kernel_rfl
theorem ok18 : callOK Try.prog 18 = true := by kernel_rfl
theorem ok19 : callOK Try.prog 19 = true := by kernel_rfl
theorem ok20 : callOK Try.prog 20 = true := by kernel_rfl
theorem ok23 : callOK Try.prog 23 = true := by kernel_rfl
theorem ok24 : callOK Try.prog 24 = true := by kernel_rfl
theorem pl38 : TY.places Try.prog 38 = some [(0, 1), (1, 1), (2, 1)] := by kernel_rfl
theorem sh3 : TY.shape Try.prog 3 = some none := by kernel_rfl
theorem sh35 : TY.shape Try.prog 35 = some (some 8) := by kernel_rfl
theorem sh38 : TY.shape Try.prog 38 = some (some 3) := by kernel_rfl
theorem sh4 : TY.shape Try.prog 4 = some none := by kernel_rfl
theorem sh43 : TY.shape Try.prog 43 = some none := by kernel_rfl
theorem sh5 : TY.shape Try.prog 5 = some none := by kernel_rfl
theorem si3 : TY.size Try.prog 3 = some 1 := by kernel_rfl
theorem si35 : TY.size Try.prog 35 = some 8 := by kernel_rfl
theorem si38 : TY.size Try.prog 38 = some 3 := by kernel_rfl
theorem si4 : TY.size Try.prog 4 = some 1 := by kernel_rfl
theorem sl22 : TY.slice Try.prog 22 = some (38, 3, 24) := by kernel_rfl
theorem sl27 : TY.slice Try.prog 27 = some (4, 1, 1) := by kernel_rfl
theorem sl33 : TY.slice Try.prog 33 = some (57, 3, 3) := by kernel_rfl
theorem sl41 : TY.slice Try.prog 41 = some (43, 1, 2) := by kernel_rfl
theorem sl42 : TY.slice Try.prog 42 = some (3, 1, 8) := by kernel_rfl
theorem un4 : Try.prog.underlying 4 = some .bool := by kernel_rfl
theorem ze3 : TY.zero Try.prog 3 = some [.int .i64 0] := by kernel_rfl
theorem ze35 : TY.zero Try.prog 35 = some [.int .i64 0, .int .i64 0, .int .i64 0, .int .i64 0, .int .i64 0, .int .i64 0, .int .i64 0, .int .i64 0] := by kernel_rfl
theorem ze38 : TY.zero Try.prog 38 = some [.int .i64 0, .int .i64 0, .int .i64 0] := by kernel_rfl
theorem ze4 : TY.zero Try.prog 4 = some [.bool false] := by kernel_rfl
theorem ze54 : TY.zero Try.prog 54 = some [.int .i64 0, .int .i64 0] := by kernel_rfl


end Go.Proofs.Ytiehdnjcapjacaa
