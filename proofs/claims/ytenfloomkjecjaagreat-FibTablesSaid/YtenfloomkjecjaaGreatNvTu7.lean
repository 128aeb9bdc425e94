/- What the program tells of a view. No condition but the bounds of what comes in. -/
import Derived.Test.YtenfloomkjecjaaGreatNvTo6
set_option maxRecDepth 100000
namespace Nv
open Go
theorem Zj3 (d:Zj) (x y:Int):S.ZV d.ZW (⟨x,y⟩:VL)=has d (x,y):=by
 unfold S.ZV S.Z9
 simp only [letS]
 rw [← ZkH]
 refine Eq.trans (Zmb (fun j=>((⟨x,y⟩:VL).UQ==(d.ZW.getD j default).UQ)&&(((⟨x,y⟩:VL).ZP==(d.ZW.getD j default).ZP)&&true)) d.ZW.length) (ZcS fun j _=>?_)
 simp only [Bool.and_true]
 rw [Bool.beq_comm (a:=x),Bool.beq_comm (a:=y)]
theorem Zn8 (v:XL) (x y:Int):S.Qd v x y=domI v (x,y):=by
 unfold S.Qd domI idxN
 simp only [letS]
 rw [Zbe (g':=fun k=>bif has (v.Yf.Xe.getD k default) (x,y) then some (.inr (k:Int)) else none)]
 intro j _
 unfold S.YT
 simp only [letS,Zj3]
theorem ZoB (v:XL) (x y:Int):S.VE v x y=bif decide (domI v (x,y) < 0) then -1 else lnkI v (domI v (x,y)):=by
 unfold S.VE
 simp only [letS,Zn8]
 rfl
theorem ZoN (v:XL) (x y:Int):S.Us v x y=upV v (x,y):=by
 unfold S.Us upV
 simp only [letS,Zn8,ZoB]
 cases hd:decide (domI v (x,y) < 0) with
 | true=>rfl
 | false =>
  simp only [cond_false]
  have hc:S.XH v.Jx (lnkI v (domI v (x,y)))=anyN (fun k=>lnkI v (domI v (x,y))==v.Jx.getD k default) v.Jx.length :=
   Zmb (fun k=>lnkI v (domI v (x,y))==v.Jx.getD k default) v.Jx.length
  rw [hc]
  cases decide (lnkI v (domI v (x,y)) < 0) <;> rfl
end Nv
