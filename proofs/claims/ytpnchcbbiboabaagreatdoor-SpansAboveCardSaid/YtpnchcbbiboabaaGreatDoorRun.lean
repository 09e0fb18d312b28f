/- A closed computation: 'works' comes to true: run by the kernel. -/
import Derived.Test.YtpnchcbbiboabaaGreatDoorTab
namespace Go.Proofs.YtpnchcbbiboabaaGreatDoor
open Go Go.Sh
set_option maxRecDepth 1000000
noncomputable def tab64 : List SV := ([0, 1, 56, 2, 57, 49, 28, 3, 61, 58, 42, 50, 38, 29, 17, 4, 62, 47, 59, 36, 45, 43, 51, 22, 53, 39, 33, 30, 24, 18, 12, 5, 63, 55, 48, 27, 60, 41, 37, 16, 46, 35, 44, 21, 52, 32, 23, 11, 54, 26, 40, 15, 34, 20, 31, 10, 25, 14, 19, 9, 13, 8, 7, 6] : List Nat).map fun n => .int .u8 (.ofNat n)
noncomputable def tab10 : List SV := ([1, 10, 100, 1000, 10000] : List Nat).map fun n => .int .u64 (.ofNat n)
noncomputable def held : List (Nat × List SV) := [(0, tab64), (1, tab10)]
theorem works_run : goT tyl fnl held 100000 5 [] = some () := by kernel_rfl
end Go.Proofs.YtpnchcbbiboabaaGreatDoor
