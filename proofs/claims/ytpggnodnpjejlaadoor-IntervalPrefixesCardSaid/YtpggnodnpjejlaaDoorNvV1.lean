/- Data that can come in: the integers fit their kinds, the lengths an int. -/
import Derived.Test.YtpggnodnpjejlaaDoorNvD1
import Derived.Test.YtpggnodnpjejlaaDoorNvLibB
namespace Nv
open Go
def W_TInterval (x : TInterval) : Prop := (Lit.int .u32 x.fLo).wf = true ∧ (Lit.int .u32 x.fHi).wf = true
end Nv
