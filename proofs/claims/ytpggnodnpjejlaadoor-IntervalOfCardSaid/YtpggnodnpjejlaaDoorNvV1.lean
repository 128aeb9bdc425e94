/- Data that can come in: the integers fit their kinds, the lengths an int. -/
import Derived.Test.YtpggnodnpjejlaaDoorNvD1
import Derived.Test.YtpggnodnpjejlaaDoorNvLibB
namespace Nv
open Go
def W_TPrefix (x : TPrefix) : Prop := (Lit.int .u32 x.fAddr).wf = true ∧ (Lit.int .i64 x.fLen).wf = true
end Nv
