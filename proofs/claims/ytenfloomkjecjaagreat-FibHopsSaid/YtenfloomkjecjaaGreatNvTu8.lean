/- What the reference tells of a view. No condition but the bounds of what comes in. -/
import Derived.Test.YtenfloomkjecjaaGreatNvTo6
set_option maxRecDepth 100000
namespace Nv
open Go
theorem ZmU (v : XU) (x y : Int) : S.JT v x y = domI v (x,y) := by
 unfold S.JT domI idxN
 simp only [letS]
 rw [ZaA (g' := fun k => bif has (v.X9.Xa.getD k default) (x,y) then some (.inr (k : Int)) else none)]
 intro j _
 unfold S.JL
 simp only [letS]
 have h : runN (S.JK v x y j) (.inl ()) 0 ((v.X9.Xa.getD j default).ZR.length) = _ := ZhU (β := Unit ⊕ Int) (fun k => (((v.X9.Xa.getD j default).ZR.getD k default).UB == x) && ((((v.X9.Xa.getD j default).ZR.getD k default).ZH == y) && true)) (.inr (j : Int)) (.inl ()) _
 rw [h]
 have h2 : anyN (fun k => (((v.X9.Xa.getD j default).ZR.getD k default).UB == x) && ((((v.X9.Xa.getD j default).ZR.getD k default).ZH == y) && true)) (v.X9.Xa.getD j default).ZR.length = has (v.X9.Xa.getD j default) (x,y) := by
  rw [← ZjK]
  exact Zcc fun k _ => by rw [Bool.and_true]
 rw [h2]
 cases has (v.X9.Xa.getD j default) (x,y) <;> rfl
theorem Znn (v : XU) (x y : Int) : S.WO v x y = bif decide (domI v (x,y) < 0) then -1 else lnkI v (domI v (x,y)) := by
 unfold S.WO
 simp only [letS,ZmU]
 cases hd : decide (domI v (x,y) < 0) with
 | true =>
  have hd2 : decide (domI v (x,y) ≥ 0) = false := by have := of_decide_eq_true hd; exact decide_eq_false (by omega)
  rw [Zkv (fun i _ => by unfold S.J2; rw [hd2]; rfl)]
  rfl
 | false =>
  have hd2 : decide (domI v (x,y) ≥ 0) = true := by have := of_decide_eq_false hd; exact decide_eq_true (by omega)
  unfold lnkI idxN
  rw [ZaA (g' := fun k => bif domI v (x,y) == v.X9.JP.getD k default then some (.inr (k : Int)) else none)]
  ·rfl
  ·intro i _
   unfold S.J2
   rw [hd2,Bool.true_and,Bool.beq_comm]
theorem Znx {v : XU} (h : VF v) (x y : Int) : S.Gh v x y = upV v (x,y) := by
 unfold S.Gh upV
 simp only [letS,ZmU,Znn]
 cases hd : decide (domI v (x,y) < 0) with
 | true => rfl
 | false =>
  simp only [cond_false]
  have hr : runN (S.WB v (lnkI v (domI v (x,y)))) (.inl ()) 0 v.Jp.length = _ := ZhU (β := Unit ⊕ Bool) (fun k => v.Jp.getD k default == lnkI v (domI v (x,y))) (.inr false) (.inl ()) _
  rw [hr]
  have hc : anyN (fun k => v.Jp.getD k default == lnkI v (domI v (x,y))) v.Jp.length = anyN (fun k => lnkI v (domI v (x,y)) == v.Jp.getD k default) v.Jp.length := Zcc fun k _ => Bool.beq_comm
  rw [hc]
  cases hl : decide (lnkI v (domI v (x,y)) < 0) with
  | false => cases anyN (fun k => lnkI v (domI v (x,y)) == v.Jp.getD k default) v.Jp.length <;> rfl
  | true =>
   have hl2 := of_decide_eq_true hl
   rw [Kx.2 fun k hk => ?_]
   ·rfl
   ·rw [beq_eq_false_iff_ne]
    intro e
    have := (h.dpos (v.Jp.getD k default) (by rw [List.getD_eq_getElem?_getD,List.getElem?_eq_getElem hk]; exact List.getElem_mem hk)).1
    omega
end Nv
