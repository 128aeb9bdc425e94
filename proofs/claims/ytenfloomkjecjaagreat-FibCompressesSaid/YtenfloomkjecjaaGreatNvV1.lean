/- Data that can come in: the integers fit their kinds, the lengths an int. -/
import Derived.Test.YtenfloomkjecjaaGreatNvD1
import Derived.Test.YtenfloomkjecjaaGreatNvLibB
namespace Nv
open Go
def W_TPrefix (x : TPrefix) : Prop := (Lit.int .u32 x.fAddr).wf = true ∧ (Lit.int .i64 x.fLen).wf = true
def W_THop (x : THop) : Prop := (Lit.int .i64 x.fIface).wf = true ∧ (Lit.int .u32 x.fAddr).wf = true
def W_TForward (x : TForward) : Prop := W_TPrefix x.fPrefix ∧ (x.fHops.length ≤ maxLen ∧ x.fHops.length * 16 ≤ reachBytes ∧ ∀ y ∈ x.fHops, W_THop y) ∧ True
end Nv
