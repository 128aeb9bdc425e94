/- What comes in has lengths within bounds. -/
import Derived.Test.YtaienbkgekjdnaaGreatNvT1
import Derived.Test.YtaienbkgekjdnaaGreatNvV1
namespace Nv
open Go
theorem ZdH {x : Zl} (h : KW x) : Yg x := ⟨(h.1), (h.2.2.2.2.2.2.2.2.2.1), (h.2.2.2.2.2.2.2.2.2.2.1)⟩
theorem Zc7 {x : Z2} (h : Ki x) : YA x := ⟨(h.1), (h.2).1⟩
theorem Zf8 {x : Zax} (h : ZcY x) : UC x := (h.2.1)
theorem ZeO {x : Ya} (h : R8 x) : Q8 x := ⟨(h.1), ⟨(h.2).1, fun y hy => Zf8 ((h.2).2.2 y hy)⟩⟩
theorem ZiO {x : Ud} (h : Zhy x) : Ut x := ⟨(h.1), (h.2).1⟩
theorem ZcA {x : YR} (h : GP x) : Vc x := (h.2.2.2.2.2.2.1)
theorem ZcB {x : YS} (h : GQ x) : Vd x := (h.2.2.1)
theorem Ra {x : YJ} (h : KI x) : Vi x := (h.2.2.2.1)
theorem ZdI {x : Vl} (h : KY x) : Jm x := ⟨(h.2.2.1).1, ⟨(h.2.2.2).1, fun y hy => Ra ((h.2.2.2).2.2 y hy)⟩⟩
theorem Zai {x : YC} (h : U6 x) : X7 x := ⟨(h.2.2.1), (h.2.2.2.1), ⟨(h.2.2.2.2).1, fun y hy => Ra ((h.2.2.2.2).2.2 y hy)⟩⟩
theorem ZeP {x : Jr} (h : Zaa x) : JW x := ⟨(h.2.2.1), (h.2.2.2)⟩
theorem Zc8 {x : Xy} (h : Kj x) : Xi x := ⟨⟨(h.2.2.2.1).1, fun y hy => ZeP ((h.2.2.2.1).2.2 y hy)⟩, (h.2.2.2.2.1).1, (h.2.2.2.2.2.1).1, (h.2.2.2.2.2.2.1).1, ⟨(h.2.2.2.2.2.2.2).1, fun y hy => Ra ((h.2.2.2.2.2.2.2).2.2 y hy)⟩⟩
theorem Zf9 {x : Zf} (h : ZcZ x) : Zn x := ⟨(h.1), ⟨(h.2.2.1).1, fun y hy => ZdH ((h.2.2.1).2.2 y hy)⟩, ⟨(h.2.2.2.1).1, fun y hy => Zc7 ((h.2.2.2.1).2.2 y hy)⟩, ⟨(h.2.2.2.2.1).1, fun y hy => ZeO ((h.2.2.2.2.1).2.2 y hy)⟩, ⟨(h.2.2.2.2.2.1).1, fun y hy => ZiO ((h.2.2.2.2.2.1).2.2 y hy)⟩, ⟨(h.2.2.2.2.2.2.1).1, fun y hy => ZcA ((h.2.2.2.2.2.2.1).2.2 y hy)⟩, ⟨(h.2.2.2.2.2.2.2.1).1, fun y hy => ZcB ((h.2.2.2.2.2.2.2.1).2.2 y hy)⟩, ZdI (h.2.2.2.2.2.2.2.2.1), Zai (h.2.2.2.2.2.2.2.2.2.1), Zc8 (h.2.2.2.2.2.2.2.2.2.2)⟩
theorem Ze8 {x : ZB} (h : Zbr x) : Yx x := ⟨(h).1, fun y hy => Zf9 ((h).2.2 y hy)⟩
end Nv
