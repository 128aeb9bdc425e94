/- The total form of the law. -/
import Derived.Test.YtaienbkgekjdnaaGreatNvT1
import Derived.KernelRfl
import Derived.Test.YtaienbkgekjdnaaGreatNvS1
set_option maxRecDepth 100000
namespace Nv
open Go
def S.Wy:Bool:=true
theorem ZhC:M.Wy=some S.Wy:=Zka
theorem Zkn:S.Wy=true:=rfl
end Nv
