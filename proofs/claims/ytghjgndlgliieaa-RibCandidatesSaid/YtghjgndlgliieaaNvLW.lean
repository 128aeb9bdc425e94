/- What comes in has lengths within bounds. -/
import Derived.Test.YtghjgndlgliieaaNvT1
import Derived.Test.YtghjgndlgliieaaNvV1
namespace Nv
open Go
theorem LofW_TRoute {x : TRoute} (h : W_TRoute x) : L_TRoute x := ⟨(h.2.2.2.2.2.2.2.2.1).1, (h.2.2.2.2.2.2.2.2.2.2.2.1).1⟩
theorem LofW_TTables {x : TTables} (h : W_TTables x) : L_TTables x := ⟨⟨(h.1).1, fun y hy => LofW_TRoute ((h.1).2.2 y hy)⟩, ⟨(h.2.1).1, fun y hy => LofW_TRoute ((h.2.1).2.2 y hy)⟩, ⟨(h.2.2.1).1, fun y hy => LofW_TRoute ((h.2.2.1).2.2 y hy)⟩, ⟨(h.2.2.2).1, fun y hy => LofW_TRoute ((h.2.2.2).2.2 y hy)⟩⟩
end Nv
