/- What the program tells of a view. No condition but the bounds of what comes in. -/
import Derived.Test.YtenfloomkjecjaaGreatNvTo6
set_option maxRecDepth 100000
namespace Nv
open Go
theorem Zi8 (d : Zi) (x y : Int) : S.ZP d.ZR (⟨x,y⟩ : Vz) = has d (x,y) := by
 unfold S.ZP S.Z7
 simp only [letS]
 rw [← ZjK]
 refine Eq.trans (Zk8 (fun j => ((⟨x,y⟩ : Vz).UB == (d.ZR.getD j default).UB) && (((⟨x,y⟩ : Vz).ZH == (d.ZR.getD j default).ZH) && true)) d.ZR.length) (Zcc fun j _ => ?_)
 simp only [Bool.and_true]
 rw [Bool.beq_comm (a := x),Bool.beq_comm (a := y)]
theorem ZmT (v : XU) (x y : Int) : S.Y6 v x y = domI v (x,y) := by
 unfold S.Y6 domI idxN
 simp only [letS]
 rw [ZaA (g' := fun k => bif has (v.X9.Xa.getD k default) (x,y) then some (.inr (k : Int)) else none)]
 intro j _
 unfold S.YK
 simp only [letS,Zi8]
theorem Znm (v : XU) (x y : Int) : S.Vu v x y = bif decide (domI v (x,y) < 0) then -1 else lnkI v (domI v (x,y)) := by
 unfold S.Vu
 simp only [letS,ZmT]
 rfl
theorem Znw (v : XU) (x y : Int) : S.Ud v x y = upV v (x,y) := by
 unfold S.Ud upV
 simp only [letS,ZmT,Znm]
 cases hd : decide (domI v (x,y) < 0) with
 | true => rfl
 | false =>
  simp only [cond_false]
  have hc : S.XC v.Jp (lnkI v (domI v (x,y))) = anyN (fun k => lnkI v (domI v (x,y)) == v.Jp.getD k default) v.Jp.length :=
   Zk8 (fun k => lnkI v (domI v (x,y)) == v.Jp.getD k default) v.Jp.length
  rw [hc]
  cases decide (lnkI v (domI v (x,y)) < 0) <;> rfl
end Nv
