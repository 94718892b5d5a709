/-
  No cell of these rows narrows 'for every input' (looked for: loops, veiled, ifaces, maps, wideKeys, modest, calm, conditions, laid).
  DERIVED. THE GIVEN ROWS OF THIS SEAT. 5 by the template 'for every input the law returns true; each argument reads behind the call as it read before'; 0 by the template 'total and deterministic' (their statements: YtffkcgogkhdcdaaTotals.lean).
  GIVEN WITH THE SEED: the statements are not yours to turn. If you find one false, say at which input.
  Laid BY PROGRAM, IN A SANDBOX (cutbox-rows.mjs): the forced cells as the released guide's own fill.sh prints them over the translation 351ea7ed3f3c309f… (all of the seat's roots in one cut). By AI agents, Wed Nov 11 2026. No macro, syntax, notation, axiom, sorry.
-/
import Derived.Test.YtffkcgogkhdcdaaChecked
import GoSem.Claim
import GoSem.ClaimJoined
import GoSem.ClaimMapViews
import Derived.JoinedTies
import Derived.KernelRfl
namespace Go.Proofs.Ytffkcgogkhdcdaa
/- THE CELL 'sum', in the pinned program and in every row, IS THE sha256 OF THE DUMP (.gsa) THAT YtffkcgogkhdcdaaProg.lean LOADS. Nothing in Lean hashes anything: it is a label: what it is worth is what the hold of that sum in a sandbox is worth. -/
noncomputable def Try.pinned : Pinned := { name := "ytffkcgogkhdcdaa", sum := "351ea7ed3f3c309fdad3fee234ba91c94dbb69ea9a7c590f94e907217d1fe46e", checked := Try.checked }
namespace Rows
def none {H : Type} : Left H := { results := [], args := [] }

/-- 'troupekeep.OwnTurns': WHATEVER THE INPUT: true; the input reads as it did. -/
def ownTurnsSpec : ChangeSpec := { name := "ownTurns", fn := fun _ => fun
  | [d1, d2, d3, d4] => { results := [.lit (.bool true)], args := [d1, d2, d3, d4] }
  | _ => none }
def ownTurnsRow : OpenClaim := { program := "ytffkcgogkhdcdaa", sum := "351ea7ed3f3c309fdad3fee234ba91c94dbb69ea9a7c590f94e907217d1fe46e", func := "troupe/troupekeep.OwnTurns", spec := "ownTurns", unfollowed := true, recurses := true, apart := false }
def OwnTurnsSaid : Prop := ownTurnsRow.holds Try.pinned (OpenSpec.ofChange ownTurnsSpec)

/-- ITS FALSE NEIGHBOUR: 'it returns false'. Refute it at one input. -/
def ownTurnsWrong : ChangeSpec := { name := "ownTurns", fn := fun _ => fun
  | [d1, d2, d3, d4] => { results := [.lit (.bool false)], args := [d1, d2, d3, d4] }
  | _ => none }
def OwnTurnsWrongFalsely : Prop := ownTurnsRow.holds Try.pinned (OpenSpec.ofChange ownTurnsWrong)

/-- 'troupekeep.TurnsFair': WHATEVER THE INPUT: true; the input reads as it did. -/
def turnsFairSpec : ChangeSpec := { name := "turnsFair", fn := fun _ => fun
  | [d1, d2] => { results := [.lit (.bool true)], args := [d1, d2] }
  | _ => none }
def turnsFairRow : OpenClaim := { program := "ytffkcgogkhdcdaa", sum := "351ea7ed3f3c309fdad3fee234ba91c94dbb69ea9a7c590f94e907217d1fe46e", func := "troupe/troupekeep.TurnsFair", spec := "turnsFair", apart := false }
def TurnsFairSaid : Prop := turnsFairRow.holds Try.pinned (OpenSpec.ofChange turnsFairSpec)

/-- ITS FALSE NEIGHBOUR: 'it returns false'. Refute it at one input. -/
def turnsFairWrong : ChangeSpec := { name := "turnsFair", fn := fun _ => fun
  | [d1, d2] => { results := [.lit (.bool false)], args := [d1, d2] }
  | _ => none }
def TurnsFairWrongFalsely : Prop := turnsFairRow.holds Try.pinned (OpenSpec.ofChange turnsFairWrong)

/-- 'troupekeep.ShotBack': WHATEVER THE INPUT: true; the input reads as it did. -/
def shotBackSpec : ChangeSpec := { name := "shotBack", fn := fun _ => fun
  | [d1, d2] => { results := [.lit (.bool true)], args := [d1, d2] }
  | _ => none }
def shotBackRow : OpenClaim := { program := "ytffkcgogkhdcdaa", sum := "351ea7ed3f3c309fdad3fee234ba91c94dbb69ea9a7c590f94e907217d1fe46e", func := "troupe/troupekeep.ShotBack", spec := "shotBack", unfollowed := true, recurses := true, apart := false }
def ShotBackSaid : Prop := shotBackRow.holds Try.pinned (OpenSpec.ofChange shotBackSpec)

/-- ITS FALSE NEIGHBOUR: 'it returns false'. Refute it at one input. -/
def shotBackWrong : ChangeSpec := { name := "shotBack", fn := fun _ => fun
  | [d1, d2] => { results := [.lit (.bool false)], args := [d1, d2] }
  | _ => none }
def ShotBackWrongFalsely : Prop := shotBackRow.holds Try.pinned (OpenSpec.ofChange shotBackWrong)

/-- 'troupekeep.ShotOne': WHATEVER THE INPUT: true; the input reads as it did. -/
def shotOneSpec : ChangeSpec := { name := "shotOne", fn := fun _ => fun
  | [d1, d2] => { results := [.lit (.bool true)], args := [d1, d2] }
  | _ => none }
def shotOneRow : OpenClaim := { program := "ytffkcgogkhdcdaa", sum := "351ea7ed3f3c309fdad3fee234ba91c94dbb69ea9a7c590f94e907217d1fe46e", func := "troupe/troupekeep.ShotOne", spec := "shotOne", unfollowed := true, recurses := true, apart := false }
def ShotOneSaid : Prop := shotOneRow.holds Try.pinned (OpenSpec.ofChange shotOneSpec)

/-- ITS FALSE NEIGHBOUR: 'it returns false'. Refute it at one input. -/
def shotOneWrong : ChangeSpec := { name := "shotOne", fn := fun _ => fun
  | [d1, d2] => { results := [.lit (.bool false)], args := [d1, d2] }
  | _ => none }
def ShotOneWrongFalsely : Prop := shotOneRow.holds Try.pinned (OpenSpec.ofChange shotOneWrong)

/-- 'troupekeep.MemBack': WHATEVER THE INPUT: true; the input reads as it did. -/
def memBackSpec : ChangeSpec := { name := "memBack", fn := fun _ => fun
  | [d1, d2, d3, d4] => { results := [.lit (.bool true)], args := [d1, d2, d3, d4] }
  | _ => none }
def memBackRow : OpenClaim := { program := "ytffkcgogkhdcdaa", sum := "351ea7ed3f3c309fdad3fee234ba91c94dbb69ea9a7c590f94e907217d1fe46e", func := "troupe/troupekeep.MemBack", spec := "memBack", inPlace := ["internal/bytealg.IndexByteString", "internal/bytealg.IndexString"], named := ["internal/bytealg.MaxLen"], apart := false }
def MemBackSaid : Prop := memBackRow.holds Try.pinned (OpenSpec.ofChange memBackSpec)

/-- ITS FALSE NEIGHBOUR: 'it returns false'. Refute it at one input. -/
def memBackWrong : ChangeSpec := { name := "memBack", fn := fun _ => fun
  | [d1, d2, d3, d4] => { results := [.lit (.bool false)], args := [d1, d2, d3, d4] }
  | _ => none }
def MemBackWrongFalsely : Prop := memBackRow.holds Try.pinned (OpenSpec.ofChange memBackWrong)

/- THE SECOND FORM. 'bulk': how many values and letters a reading holds, each counted each time it is reached (what is shared counts as often as it is met; a slice's spare places count too). A statement '..UptoSaid' is the law's where the arguments, and the package variables that the reading takes, are together of bulk at most 1048576: NARROWER than '..Said'. Prove '..Said' where nothing that the law and all that it calls make is longer than what came in: it says more and counts as full. Else prove '..UptoSaid'. A law counts once. -/
mutual
def uptoBulk {H : Type} : DataW H → Nat
  | .lit (.string bytes) => bytes.length + 1
  | .lit _ => 1
  | .nil => 1
  | .ptr d => uptoBulk d + 1
  | .slice elems spare => uptoBulkAll elems + uptoBulkAll spare + 1
  | .agg parts => uptoBulkAll parts + 1
  | .iface _ d => uptoBulk d + 1
  | .map entries => uptoBulkEntries entries + 1
  | .held _ => 1
def uptoBulkAll {H : Type} : List (DataW H) → Nat
  | [] => 0
  | d :: r => uptoBulk d + uptoBulkAll r
def uptoBulkEntries {H : Type} : List (Lit × DataW H) → Nat
  | [] => 0
  | x :: r => uptoBulkEntry x + uptoBulkEntries r
def uptoBulkEntry {H : Type} : Lit × DataW H → Nat
  | (.string bytes, d) => bytes.length + uptoBulk d + 1
  | (_, d) => uptoBulk d + 1
 end
def uptoSmall : (H : Type) → List (DataW H) → Bool := fun _ ds => decide (uptoBulkAll ds ≤ 1048576)
def OpenSpec.upto (s : _root_.Go.ChangeSpec) : _root_.Go.OpenSpec := { _root_.Go.OpenSpec.ofChange s with cond := some uptoSmall }

/-- 'troupekeep.OwnTurns', WHERE WHAT IT READS IS OF BULK AT MOST 1048576: true; the input reads as it did. -/
def ownTurnsUptoRow : OpenClaim := { program := "ytffkcgogkhdcdaa", sum := "351ea7ed3f3c309fdad3fee234ba91c94dbb69ea9a7c590f94e907217d1fe46e", func := "troupe/troupekeep.OwnTurns", spec := "ownTurns", unfollowed := true, recurses := true, apart := false, narrowed := true }
def OwnTurnsUptoSaid : Prop := ownTurnsUptoRow.holds Try.pinned (OpenSpec.upto ownTurnsSpec)

/-- 'troupekeep.TurnsFair', WHERE WHAT IT READS IS OF BULK AT MOST 1048576: true; the input reads as it did. -/
def turnsFairUptoRow : OpenClaim := { program := "ytffkcgogkhdcdaa", sum := "351ea7ed3f3c309fdad3fee234ba91c94dbb69ea9a7c590f94e907217d1fe46e", func := "troupe/troupekeep.TurnsFair", spec := "turnsFair", apart := false, narrowed := true }
def TurnsFairUptoSaid : Prop := turnsFairUptoRow.holds Try.pinned (OpenSpec.upto turnsFairSpec)

/-- 'troupekeep.ShotBack', WHERE WHAT IT READS IS OF BULK AT MOST 1048576: true; the input reads as it did. -/
def shotBackUptoRow : OpenClaim := { program := "ytffkcgogkhdcdaa", sum := "351ea7ed3f3c309fdad3fee234ba91c94dbb69ea9a7c590f94e907217d1fe46e", func := "troupe/troupekeep.ShotBack", spec := "shotBack", unfollowed := true, recurses := true, apart := false, narrowed := true }
def ShotBackUptoSaid : Prop := shotBackUptoRow.holds Try.pinned (OpenSpec.upto shotBackSpec)

/-- 'troupekeep.ShotOne', WHERE WHAT IT READS IS OF BULK AT MOST 1048576: true; the input reads as it did. -/
def shotOneUptoRow : OpenClaim := { program := "ytffkcgogkhdcdaa", sum := "351ea7ed3f3c309fdad3fee234ba91c94dbb69ea9a7c590f94e907217d1fe46e", func := "troupe/troupekeep.ShotOne", spec := "shotOne", unfollowed := true, recurses := true, apart := false, narrowed := true }
def ShotOneUptoSaid : Prop := shotOneUptoRow.holds Try.pinned (OpenSpec.upto shotOneSpec)

/-- 'troupekeep.MemBack', WHERE WHAT IT READS IS OF BULK AT MOST 1048576: true; the input reads as it did. -/
def memBackUptoRow : OpenClaim := { program := "ytffkcgogkhdcdaa", sum := "351ea7ed3f3c309fdad3fee234ba91c94dbb69ea9a7c590f94e907217d1fe46e", func := "troupe/troupekeep.MemBack", spec := "memBack", inPlace := ["internal/bytealg.IndexByteString", "internal/bytealg.IndexString"], named := ["internal/bytealg.MaxLen"], apart := false, narrowed := true }
def MemBackUptoSaid : Prop := memBackUptoRow.holds Try.pinned (OpenSpec.upto memBackSpec)

end Rows
end Go.Proofs.Ytffkcgogkhdcdaa
