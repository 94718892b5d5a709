/- What the rows of a door seat share: what their listed tables give a walk, and a start that meets them. -/
import Derived.Test.YtobepdjhihjcdaaDoorBmW
import Derived.Test.YtobepdjhihjcdaaDoorRow
import Derived.Test.YtobepdjhihjcdaaDoorTie
import Derived.SevenTiedAt
import Derived.Lib.LaidTab
import Derived.LaidMore
import Derived.Stop.LaidErr
set_option maxRecDepth 100000
namespace Go.Proofs.YtobepdjhihjcdaaDoor.Door
open Go Go.Proofs.YtobepdjhihjcdaaDoor.Eng
noncomputable abbrev laid : List (String × DataW Unit) := [("math/bits.deBruijn32tab", Rows.laid_math_bits_deBruijn32tab), ("math/bits.deBruijn64tab", Rows.laid_math_bits_deBruijn64tab)]
theorem at_of_tab {P : Program} {W : World} {name : String} {zs : List Int} {g : Nat} (h : Lib.TabIs P W name .u8 zs) (hg : P.globalNamed name = some g) : At W g 0 (zs.map fun z => Value.int .u8 z) := by
  unfold Lib.TabIs World.var? at h
  rw [hg, Option.bind_some] at h
  split at h
  · rename_i cs e fz hh
    obtain rfl := Option.some.inj h
    exact ⟨_, e, fz, hh, fun i v hi => by simpa using hi⟩
  · cases h
theorem tabs {W : World} (h : laidMetH Tryd.prog laid W) : Bm.Tabs W := by
  rw [MakeChecks.laidMetH_plain _ _ _ (by kernel_rfl)] at h
  have h32 : Lib.TabIs Tryd.prog W "math/bits.deBruijn32tab" .u8 (Bm.tab32.map fun (n : Nat) => (n : Int)) := Lib.tabIs_of_head (g := 0) (t := 51) (e := 5) (n := 32) (by kernel_rfl) (by kernel_rfl) rfl rfl (by kernel_rfl) (by kernel_rfl) h
  have h64 : Lib.TabIs Tryd.prog W "math/bits.deBruijn64tab" .u8 (Bm.tab64.map fun (n : Nat) => (n : Int)) := Lib.tabIs_of_head (g := 1) (t := 53) (e := 5) (n := 64) (by kernel_rfl) (by kernel_rfl) rfl rfl (by kernel_rfl) (by kernel_rfl) h.tail
  exact ⟨at_of_tab h32 (by kernel_rfl), at_of_tab h64 (by kernel_rfl)⟩
theorem met (os : Os) (args : Array Value) : laidMetH Tryd.prog laid ((World.doorLaid Tryd.prog 400 os).forCall (fun _ _ => 0) ⟨#[], args, []⟩).memory :=
  laidMetH_of_parts3 (fuel := 8) (laidMet_of_run' 8 (by kernel_rfl) (by kernel_rfl)) (by kernel_rfl) (by kernel_rfl)
end Go.Proofs.YtobepdjhihjcdaaDoor.Door
