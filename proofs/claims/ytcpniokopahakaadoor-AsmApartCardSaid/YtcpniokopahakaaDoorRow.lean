/- What every row's proof of this seat shares. -/
import Derived.Test.YtcpniokopahakaaDoorRows
import Derived.Test.YtcpniokopahakaaDoorBits
import Derived.WalkKit
import Derived.ProofKit
import Derived.JoinedCond
import Derived.OpenShut
import Derived.ShutString
import Derived.ChangeOld
import Derived.Below
namespace Go.Proofs.YtcpniokopahakaaDoor.Row
theorem own : ownKnob Tryd.prog.godebug = none := by kernel_rfl
theorem laidOut : laidOutB Tryd.prog = true := by kernel_rfl
end Go.Proofs.YtcpniokopahakaaDoor.Row
set_option maxRecDepth 100000
namespace Go.Proofs.YtcpniokopahakaaDoor.Eng
open Go
theorem open_bs {s : ByteArray} (h : s.size ≤ maxLen) : ∃ l, s = bs l ∧ l.length ≤ 9223372036854775807 ∧ l = s.data.toList := by
  refine ⟨s.data.toList, bs_of s, ?_, rfl⟩
  have : s.size = s.data.toList.length := by rw [Array.length_toList]; rfl
  unfold maxLen at h
  omega
theorem bd_wf {k : IntKind} {a : Int} (h : (Lit.int k a).wf = true) : k.min ≤ a ∧ a ≤ k.max := by
  simpa [Lit.wf] using h
theorem bd_u64 {a : Int} (h : (Lit.int .u64 a).wf = true) : 0 ≤ a ∧ a ≤ 18446744073709551615 := bd_wf h
theorem bd_i64 {a : Int} (h : (Lit.int .i64 a).wf = true) : -9223372036854775808 ≤ a ∧ a ≤ 9223372036854775807 := bd_wf h
theorem bd_u32 {a : Int} (h : (Lit.int .u32 a).wf = true) : 0 ≤ a ∧ a ≤ 4294967295 := bd_wf h
theorem bd_i32 {a : Int} (h : (Lit.int .i32 a).wf = true) : -2147483648 ≤ a ∧ a ≤ 2147483647 := bd_wf h
theorem bd_u8 {a : Int} (h : (Lit.int .u8 a).wf = true) : 0 ≤ a ∧ a ≤ 255 := bd_wf h
end Go.Proofs.YtcpniokopahakaaDoor.Eng
