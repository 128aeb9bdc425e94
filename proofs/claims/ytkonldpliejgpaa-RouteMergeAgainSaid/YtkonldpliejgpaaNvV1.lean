/- Data that can come in: the integers fit their kinds, the lengths an int. -/
import Derived.Test.YtkonldpliejgpaaNvD1
import Derived.Test.YtkonldpliejgpaaNvLibB
namespace Nv
open Go
def W_TPrefix (x : TPrefix) : Prop := (Lit.int .u32 x.fAddr).wf = true ∧ (Lit.int .i64 x.fLen).wf = true
def W_THop (x : THop) : Prop := (Lit.int .i64 x.fIface).wf = true ∧ (Lit.int .u32 x.fAddr).wf = true
def W_TRoute (x : TRoute) : Prop := W_TPrefix x.fPrefix ∧ (Lit.int .i64 x.fProto).wf = true ∧ (Lit.int .i64 x.fClass).wf = true ∧ (Lit.int .i64 x.fAdmin).wf = true ∧ (Lit.int .i64 x.fMetric).wf = true ∧ (Lit.int .i64 x.fInner).wf = true ∧ (Lit.int .i64 x.fTag).wf = true ∧ (Lit.int .i64 x.fPref).wf = true ∧ (x.fPath.length ≤ maxLen ∧ x.fPath.length * 8 ≤ reachBytes ∧ ∀ y ∈ x.fPath, (Lit.int .i64 y).wf = true) ∧ (Lit.int .u32 x.fFrom).wf = true ∧ (Lit.int .u32 x.fNext).wf = true ∧ (x.fHops.length ≤ maxLen ∧ x.fHops.length * 16 ≤ reachBytes ∧ ∀ y ∈ x.fHops, W_THop y) ∧ True
end Nv
