/- What both laws of this seat share: the tables that the program's variables hold; that 'works' comes to true; a world for the witness. -/
import Derived.Test.YtpnchcbbiboabaaGreatDoorCards
import Derived.Test.YtpnchcbbiboabaaGreatDoorTie
import Derived.Test.YtpnchcbbiboabaaGreatDoorRun
import Derived.Test.YtpnchcbbiboabaaGreatDoorLw
import Derived.Stop.LaidErr
namespace Go.Proofs.YtpnchcbbiboabaaGreatDoor
open Go Go.Sh Go.ChangeShapes Go.WideShapes Go.ChangeAt Go.RowKit Go.Lw
set_option maxRecDepth 100000
theorem own : ownKnob Tryz.prog.godebug = none := by kernel_rfl
theorem laidOut : laidOutB Tryz.prog = true := by kernel_rfl
theorem g64 : Tryz.prog.globalNamed "math/bits.deBruijn64tab" = some 0 := by kernel_rfl
theorem g10 : Tryz.prog.globalNamed "internal/strconv.uint64pow10" = some 1 := by kernel_rfl
theorem g64Type : (Tryz.prog.globals[0]?).map (·.type) = some 257 := by kernel_rfl
theorem g10Type : (Tryz.prog.globals[1]?).map (·.type) = some 280 := by kernel_rfl
theorem cells5 : Tryz.prog.cellsOf 5 = 1 := by kernel_rfl
theorem cells52 : Tryz.prog.cellsOf 52 = 1 := by kernel_rfl
theorem cells257 : Tryz.prog.cellsOf 257 = 64 := by kernel_rfl
theorem cells280 : Tryz.prog.cellsOf 280 = 20 := by kernel_rfl
noncomputable def zs64 : List Int := [0, 1, 56, 2, 57, 49, 28, 3, 61, 58, 42, 50, 38, 29, 17, 4, 62, 47, 59, 36, 45, 43, 51, 22, 53, 39, 33, 30, 24, 18, 12, 5, 63, 55, 48, 27, 60, 41, 37, 16, 46, 35, 44, 21, 52, 32, 23, 11, 54, 26, 40, 15, 34, 20, 31, 10, 25, 14, 19, 9, 13, 8, 7, 6]
noncomputable def zs10 : List Int := [1, 10, 100, 1000, 10000, 100000, 1000000, 10000000, 100000000, 1000000000, 10000000000, 100000000000, 1000000000000, 10000000000000, 100000000000000, 1000000000000000, 10000000000000000, 100000000000000000, 1000000000000000000, 10000000000000000000]
theorem tab64_is {W : World} (h : laidMetH Tryz.prog Rows.spansAtRow.laid W) : Lib.TabIs Tryz.prog W "math/bits.deBruijn64tab" .u8 zs64 :=
  Lib.tabIs_of_head g64 g64Type Tryz.underlying257 Tryz.underlying5 cells5 cells257 (laidMet.tail h)
theorem tab10_is {W : World} (h : laidMetH Tryz.prog Rows.spansAtRow.laid W) : Lib.TabIs Tryz.prog W "internal/strconv.uint64pow10" .u64 zs10 :=
  Lib.tabIs_of_head g10 g10Type Tryz.underlying280 Tryz.underlying52 cells52 cells280 (laidMet.tail (laidMet.tail h))
theorem tab_held {W : World} {name : String} {k : IntKind} {zs : List Int} {g : Nat} (h : Lib.TabIs Tryz.prog W name k zs) (hg : Tryz.prog.globalNamed name = some g) (hlt : g < gmax) {vs : List SV} (hne : vs ≠ []) {m : Nat} (hv : vs = (zs.take m).map fun z => SV.int k z) : Held W (g, vs) := by
  refine ⟨hlt, hne, fun i v hi => ?_⟩
  simp only at hi
  rw [hv, List.getElem?_map] at hi
  obtain ⟨z, hz, rfl⟩ := Option.map_eq_some_iff.1 hi
  rw [List.getElem?_take] at hz
  split at hz
  · obtain ⟨hlz, hz⟩ := List.getElem?_eq_some_iff.1 hz
    refine ⟨_, h.cell hg i hlz, ?_⟩
    have : zs.getD i 0 = z := by simp [List.getD, hlz, hz]
    rw [this]
    simp only [VR]
  · cases hz
theorem held_ok {W : World} (h : laidMetH Tryz.prog Rows.spansAtRow.laid W) : AllP (Held W) held :=
  ⟨tab_held (tab64_is h) g64 (by decide) (by simp [tab64]) (m := 64) (by kernel_rfl), tab_held (tab10_is h) g10 (by decide) (by simp [tab10]) (m := 5) (by kernel_rfl), trivial⟩
theorem works_any {W : World} (h : laidMetH Tryz.prog Rows.spansAtRow.laid W) : Calls Tryz.prog 5 #[] W fun e w' => e = .returned (.bool true) ∧ Below W.heap.size W w' :=
  closed_true works_run tyl_ok fnl_ok any_ok (held_ok h) VRs.nil
/-- A world for the witness: the settled one, the tables as the text lays them. -/
noncomputable def zs32 : List Int := [0, 1, 28, 2, 29, 14, 24, 3, 30, 22, 20, 15, 25, 17, 4, 8, 31, 27, 13, 23, 21, 19, 16, 7, 26, 12, 18, 6, 11, 5, 10, 9]
noncomputable def layTab (k : IntKind) (zs : List Int) : Obj → Obj
  | .cells _ t frozen => .cells (zs.map fun z => Value.int k z).toArray t frozen
  | o => o
noncomputable def laidWorld (os : Os) : World :=
  { World.holding Tryz.prog os ⟨#[], #[], []⟩ with heap := (((World.holding Tryz.prog os ⟨#[], #[], []⟩).heap.modify 0 (layTab .u8 zs64)).modify 1 (layTab .u64 zs10)).modify 2 (layTab .u8 zs32) }
end Go.Proofs.YtpnchcbbiboabaaGreatDoor
