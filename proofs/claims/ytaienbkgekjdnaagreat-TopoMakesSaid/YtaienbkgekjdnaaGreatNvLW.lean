/- What comes in has lengths within bounds. -/
import Derived.Test.YtaienbkgekjdnaaGreatNvT1
import Derived.Test.YtaienbkgekjdnaaGreatNvV1
namespace Nv
open Go
theorem ZfN {x : ZB} (h : ZaW x) : Xt x := ⟨(h.1),(h.2.2.2.2.2.2.2.2.2.1),(h.2.2.2.2.2.2.2.2.2.2.1)⟩
theorem Zff {x : ZF} (h : Zac x) : X9 x := ⟨(h.1),(h.2).1⟩
theorem Zim {x : Ul} (h : Ze4 x) : W8 x := (h.2.1)
theorem ZgU {x : Xy} (h : Zcg x) : Yp x := ⟨(h.1),⟨(h.2).1,fun y hy => Zim ((h.2).2.2 y hy)⟩⟩
theorem Zk7 {x : V2} (h : ZjU x) : WF x := ⟨(h.1),(h.2).1⟩
theorem ZeM {x : Y1} (h : Rx x) : JH x := (h.2.2.2.2.2.2.1)
theorem ZeN {x : Yk} (h : Ry x) : Jk x := (h.2.2.1)
theorem Zbf {x : Yi} (h : Zaz x) : J7 x := (h.2.2.2.1)
theorem ZfO {x : WC} (h : ZaY x) : Ju x := ⟨(h.2.2.1).1,⟨(h.2.2.2).1,fun y hy => Zbf ((h.2.2.2).2.2 y hy)⟩⟩
theorem Zcz {x : QF} (h : KE x) : Yj x := ⟨(h.2.2.1),(h.2.2.2.1),⟨(h.2.2.2.2).1,fun y hy => Zbf ((h.2.2.2.2).2.2 y hy)⟩⟩
theorem ZgV {x : VH} (h : Zci x) : JP x := ⟨(h.2.2.1),(h.2.2.2)⟩
theorem Zfg {x : Xg} (h : Zad x) : Xb x := ⟨⟨(h.2.2.2.1).1,fun y hy => ZgV ((h.2.2.2.1).2.2 y hy)⟩,(h.2.2.2.2.1).1,(h.2.2.2.2.2.1).1,(h.2.2.2.2.2.2.1).1,⟨(h.2.2.2.2.2.2.2).1,fun y hy => Zbf ((h.2.2.2.2.2.2.2).2.2 y hy)⟩⟩
theorem Zin {x : Zf} (h : ZcQ x) : Zj x := ⟨(h.1),⟨(h.2.2.1).1,fun y hy => ZfN ((h.2.2.1).2.2 y hy)⟩,⟨(h.2.2.2.1).1,fun y hy => Zff ((h.2.2.2.1).2.2 y hy)⟩,⟨(h.2.2.2.2.1).1,fun y hy => ZgU ((h.2.2.2.2.1).2.2 y hy)⟩,⟨(h.2.2.2.2.2.1).1,fun y hy => Zk7 ((h.2.2.2.2.2.1).2.2 y hy)⟩,⟨(h.2.2.2.2.2.2.1).1,fun y hy => ZeM ((h.2.2.2.2.2.2.1).2.2 y hy)⟩,⟨(h.2.2.2.2.2.2.2.1).1,fun y hy => ZeN ((h.2.2.2.2.2.2.2.1).2.2 y hy)⟩,ZfO (h.2.2.2.2.2.2.2.2.1),Zcz (h.2.2.2.2.2.2.2.2.2.1),Zfg (h.2.2.2.2.2.2.2.2.2.2)⟩
theorem Zds {x : ZG} (h : Rz x) : Ys x := ⟨(h).1,fun y hy => Zin ((h).2.2 y hy)⟩
end Nv
