/- Masks of addresses: the program's and the reference's are one. -/
import Derived.Test.YtpggnodnpjejlaaDoorNvD1
import Derived.Test.YtpggnodnpjejlaaDoorNvLibB
import Derived.KernelRfl
namespace Nv
open Go

end Nv
