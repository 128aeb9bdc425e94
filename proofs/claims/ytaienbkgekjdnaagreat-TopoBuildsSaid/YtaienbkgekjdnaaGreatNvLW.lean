/- What comes in has lengths within bounds. -/
import Derived.Test.YtaienbkgekjdnaaGreatNvT1
import Derived.Test.YtaienbkgekjdnaaGreatNvV1
namespace Nv
open Go
theorem ZeN {x : Zy} (h : R6 x) : Xh x := ⟨(h.1), (h.2.2.2.2.2.2.2.2.2.1), (h.2.2.2.2.2.2.2.2.2.2.1)⟩
theorem Zei {x : Z1} (h : Rj x) : X2 x := ⟨(h.1), (h.2).1⟩
theorem Zhe {x : GK} (h : Zd6 x) : WJ x := (h.2.1)
theorem ZfQ {x : X1} (h : Zbg x) : Yh x := ⟨(h.1), ⟨(h.2).1, fun y hy => Zhe ((h.2).2.2 y hy)⟩⟩
theorem ZjX {x : WD} (h : ZiM x) : Wh x := ⟨(h.1), (h.2).1⟩
theorem ZdO {x : YS} (h : KG x) : Js x := (h.2.2.2.2.2.2.1)
theorem ZdP {x : Yc} (h : KH x) : Q9 x := (h.2.2.1)
theorem Zap {x : Yw} (h : RI x) : JP x := (h.2.2.2.1)
theorem ZeO {x : We} (h : R8 x) : Ji x := ⟨(h.2.2.1).1, ⟨(h.2.2.2).1, fun y hy => Zap ((h.2.2.2).2.2 y hy)⟩⟩
theorem Zby {x : Qw} (h : GS x) : Ya x := ⟨(h.2.2.1), (h.2.2.2.1), ⟨(h.2.2.2.2).1, fun y hy => Zap ((h.2.2.2.2).2.2 y hy)⟩⟩
theorem ZfR {x : Vo} (h : Zbi x) : JA x := ⟨(h.2.2.1), (h.2.2.2)⟩
theorem Zej {x : Z4} (h : Rk x) : Z2 x := ⟨⟨(h.2.2.2.1).1, fun y hy => ZfR ((h.2.2.2.1).2.2 y hy)⟩, (h.2.2.2.2.1).1, (h.2.2.2.2.2.1).1, (h.2.2.2.2.2.2.1).1, ⟨(h.2.2.2.2.2.2.2).1, fun y hy => Zap ((h.2.2.2.2.2.2.2).2.2 y hy)⟩⟩
theorem Zhf {x : Zf} (h : Zd7 x) : Zi x := ⟨(h.1), ⟨(h.2.2.1).1, fun y hy => ZeN ((h.2.2.1).2.2 y hy)⟩, ⟨(h.2.2.2.1).1, fun y hy => Zei ((h.2.2.2.1).2.2 y hy)⟩, ⟨(h.2.2.2.2.1).1, fun y hy => ZfQ ((h.2.2.2.2.1).2.2 y hy)⟩, ⟨(h.2.2.2.2.2.1).1, fun y hy => ZjX ((h.2.2.2.2.2.1).2.2 y hy)⟩, ⟨(h.2.2.2.2.2.2.1).1, fun y hy => ZdO ((h.2.2.2.2.2.2.1).2.2 y hy)⟩, ⟨(h.2.2.2.2.2.2.2.1).1, fun y hy => ZdP ((h.2.2.2.2.2.2.2.1).2.2 y hy)⟩, ZeO (h.2.2.2.2.2.2.2.2.1), Zby (h.2.2.2.2.2.2.2.2.2.1), Zej (h.2.2.2.2.2.2.2.2.2.2)⟩
theorem Zf8 {x : ZX} (h : ZcN x) : Yt x := ⟨(h).1, fun y hy => Zhf ((h).2.2 y hy)⟩
end Nv
