/- Data that can come in: the integers fit their kinds, the lengths an int. -/
import Derived.Test.YtlhpjcjjnbfmbaaNvD1
import Derived.Test.YtlhpjcjjnbfmbaaNvLibB
namespace Nv
open Go
def W_THop (x : THop) : Prop := (Lit.int .i64 x.fIface).wf = true ∧ (Lit.int .u32 x.fAddr).wf = true
def W_TEdge (x : TEdge) : Prop := (Lit.int .i64 x.fFrom).wf = true ∧ (Lit.int .i64 x.fTo).wf = true ∧ (Lit.int .i64 x.fCost).wf = true ∧ W_THop x.fHop
end Nv
