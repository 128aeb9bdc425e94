/- What the reference tells of a view. No condition but the bounds of what comes in. -/
import Derived.Test.YtenfloomkjecjaaGreatNvTo6
set_option maxRecDepth 100000
namespace Nv
open Go
theorem Zn9 (v:XL) (x y:Int):S.J4 v x y=domI v (x,y):=by
 unfold S.J4 domI idxN
 simp only [letS]
 rw [Zbe (g':=fun k=>bif has (v.Yf.Xe.getD k default) (x,y) then some (.inr (k:Int)) else none)]
 intro j _
 unfold S.JW
 simp only [letS]
 have h:runN (S.JV v x y j) (.inl ()) 0 ((v.Yf.Xe.getD j default).ZW.length)=_:=ZiJ (β:=Unit ⊕ Int) (fun k=>(((v.Yf.Xe.getD j default).ZW.getD k default).UQ==x)&&((((v.Yf.Xe.getD j default).ZW.getD k default).ZP==y)&&true)) (.inr (j:Int)) (.inl ()) _
 rw [h]
 have h2:anyN (fun k=>(((v.Yf.Xe.getD j default).ZW.getD k default).UQ==x)&&((((v.Yf.Xe.getD j default).ZW.getD k default).ZP==y)&&true)) (v.Yf.Xe.getD j default).ZW.length=has (v.Yf.Xe.getD j default) (x,y):=by
  rw [← ZkH]
  exact ZcS fun k _=>by rw [Bool.and_true]
 rw [h2]
 cases has (v.Yf.Xe.getD j default) (x,y) <;> rfl
theorem ZoC (v:XL) (x y:Int):S.WY v x y=bif decide (domI v (x,y) < 0) then -1 else lnkI v (domI v (x,y)):=by
 unfold S.WY
 simp only [letS,Zn9]
 cases hd:decide (domI v (x,y) < 0) with
 | true =>
  have hd2:decide (domI v (x,y) ≥ 0)=false:=by have:=of_decide_eq_true hd; exact decide_eq_false (by omega)
  rw [Zlu (fun i _=>by unfold S.Vf; rw [hd2]; rfl)]
  rfl
 | false =>
  have hd2:decide (domI v (x,y) ≥ 0)=true:=by have:=of_decide_eq_false hd; exact decide_eq_true (by omega)
  unfold lnkI idxN
  rw [Zbe (g':=fun k=>bif domI v (x,y)==v.Yf.J0.getD k default then some (.inr (k:Int)) else none)]
  ·rfl
  ·intro i _
   unfold S.Vf
   rw [hd2,Bool.true_and,Bool.beq_comm]
theorem ZoO {v:XL} (h:VF v) (x y:Int):S.Gz v x y=upV v (x,y):=by
 unfold S.Gz upV
 simp only [letS,Zn9,ZoC]
 cases hd:decide (domI v (x,y) < 0) with
 | true=>rfl
 | false =>
  simp only [cond_false]
  have hr:runN (S.WM v (lnkI v (domI v (x,y)))) (.inl ()) 0 v.Jx.length=_:=ZiJ (β:=Unit ⊕ Bool) (fun k=>v.Jx.getD k default==lnkI v (domI v (x,y))) (.inr false) (.inl ()) _
  rw [hr]
  have hc:anyN (fun k=>v.Jx.getD k default==lnkI v (domI v (x,y))) v.Jx.length=anyN (fun k=>lnkI v (domI v (x,y))==v.Jx.getD k default) v.Jx.length:=ZcS fun k _=>Bool.beq_comm
  rw [hc]
  cases hl:decide (lnkI v (domI v (x,y)) < 0) with
  | false=>cases anyN (fun k=>lnkI v (domI v (x,y))==v.Jx.getD k default) v.Jx.length <;> rfl
  | true =>
   have hl2:=of_decide_eq_true hl
   rw [KX.2 fun k hk=>?_]
   ·rfl
   ·rw [beq_eq_false_iff_ne]
    intro e
    have:=(h.dpos (v.Jx.getD k default) (by rw [List.getD_eq_getElem?_getD,List.getElem?_eq_getElem hk]; exact List.getElem_mem hk)).1
    omega
end Nv
