/- What comes in has lengths within bounds. -/
import Derived.Test.YtaienbkgekjdnaaGreatNvT1
import Derived.Test.YtaienbkgekjdnaaGreatNvV1
namespace Nv
open Go
theorem Zgt {x : Zy} (h : Za7 x) : Xj x := ⟨(h.1), (h.2.2.2.2.2.2.2.2.2.1), (h.2.2.2.2.2.2.2.2.2.2.1)⟩
theorem ZfN {x : Z3} (h : Zag x) : X5 x := ⟨(h.1), (h.2).1⟩
theorem ZjA {x : Kq} (h : ZfB x) : W0 x := (h.2.1)
theorem ZhP {x : X4} (h : Zco x) : Yk x := ⟨(h.1), ⟨(h.2).1, fun y hy => ZjA ((h.2).2.2 y hy)⟩⟩
theorem ZmW {x : WU} (h : Zlx x) : Wy x := ⟨(h.1), (h.2).1⟩
theorem Zfd {x : YZ} (h : RA x) : JD x := (h.2.2.2.2.2.2.1)
theorem Zfe {x : Yf} (h : RB x) : Jh x := (h.2.2.1)
theorem Zbq {x : YB} (h : ZaG x) : J1 x := (h.2.2.2.1)
theorem Zgu {x : Wv} (h : Za9 x) : Js x := ⟨(h.2.2.1).1, ⟨(h.2.2.2).1, fun y hy => Zbq ((h.2.2.2).2.2 y hy)⟩⟩
theorem ZcG {x : QD} (h : Ky x) : Yd x := ⟨(h.2.2.1), (h.2.2.2.1), ⟨(h.2.2.2.2).1, fun y hy => Zbq ((h.2.2.2.2).2.2 y hy)⟩⟩
theorem ZhQ {x : VD} (h : Zcq x) : JL x := ⟨(h.2.2.1), (h.2.2.2)⟩
theorem ZfO {x : Z6} (h : Zah x) : Z4 x := ⟨⟨(h.2.2.2.1).1, fun y hy => ZhQ ((h.2.2.2.1).2.2 y hy)⟩, (h.2.2.2.2.1).1, (h.2.2.2.2.2.1).1, (h.2.2.2.2.2.2.1).1, ⟨(h.2.2.2.2.2.2.2).1, fun y hy => Zbq ((h.2.2.2.2.2.2.2).2.2 y hy)⟩⟩
theorem ZjB {x : Zf} (h : ZfC x) : Zi x := ⟨(h.1), ⟨(h.2.2.1).1, fun y hy => Zgt ((h.2.2.1).2.2 y hy)⟩, ⟨(h.2.2.2.1).1, fun y hy => ZfN ((h.2.2.2.1).2.2 y hy)⟩, ⟨(h.2.2.2.2.1).1, fun y hy => ZhP ((h.2.2.2.2.1).2.2 y hy)⟩, ⟨(h.2.2.2.2.2.1).1, fun y hy => ZmW ((h.2.2.2.2.2.1).2.2 y hy)⟩, ⟨(h.2.2.2.2.2.2.1).1, fun y hy => Zfd ((h.2.2.2.2.2.2.1).2.2 y hy)⟩, ⟨(h.2.2.2.2.2.2.2.1).1, fun y hy => Zfe ((h.2.2.2.2.2.2.2.1).2.2 y hy)⟩, Zgu (h.2.2.2.2.2.2.2.2.1), ZcG (h.2.2.2.2.2.2.2.2.2.1), ZfO (h.2.2.2.2.2.2.2.2.2.2)⟩
theorem Zid {x : ZY} (h : Zd5 x) : Yy x := ⟨(h).1, fun y hy => ZjB ((h).2.2 y hy)⟩
end Nv
