/- Masks of addresses: the program's and the reference's are one. -/
import Derived.Test.YtaienbkgekjdnaaGreatNvD1
import Derived.Test.YtaienbkgekjdnaaGreatNvLibB
import Derived.KernelRfl
namespace Nv
open Go
end Nv
