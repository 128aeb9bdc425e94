/- What the reference tells of a view. No condition but the bounds of what comes in. -/
import Derived.Test.YtaienbkgekjdnaaGreatNvTo6
set_option maxRecDepth 100000
namespace Nv
open Go
theorem Zkc (v : Xq) (x y : Int) : S.QT v x y = domI v (x, y) := by
  unfold S.QT domI idxN
  simp only [letS]
  rw [Zdd (g' := fun k => bif has (v.ZV.Zv.getD k default) (x, y) then some (.inr (k : Int)) else none)]
  intro j _
  unfold S.Jd
  simp only [letS]
  have h : runN (S.Jc v x y j) (.inl ()) 0 ((v.ZV.Zv.getD j default).ZU.length) = _ := ZgA (β := Unit ⊕ Int) (fun k => (((v.ZV.Zv.getD j default).ZU.getD k default).Xp == x) && ((((v.ZV.Zv.getD j default).ZU.getD k default).J2 == y) && true)) (.inr (j : Int)) (.inl ()) _
  rw [h]
  have h2 : anyN (fun k => (((v.ZV.Zv.getD j default).ZU.getD k default).Xp == x) && ((((v.ZV.Zv.getD j default).ZU.getD k default).J2 == y) && true)) (v.ZV.Zv.getD j default).ZU.length = has (v.ZV.Zv.getD j default) (x, y) := by
    rw [← Zk4]
    exact Zek fun k _ => by rw [Bool.and_true]
  rw [h2]
  cases has (v.ZV.Zv.getD j default) (x, y) <;> rfl
theorem ZlH (v : Xq) (x y : Int) : S.Wf v x y = bif decide (domI v (x, y) < 0) then -1 else lnkI v (domI v (x, y)) := by
  unfold S.Wf
  simp only [letS, Zkc]
  cases hd : decide (domI v (x, y) < 0) with
  | true =>
    have hd2 : decide (domI v (x, y) ≥ 0) = false := by have := of_decide_eq_true hd; exact decide_eq_false (by omega)
    rw [Zft (fun i _ => by unfold S.Ju; rw [hd2]; rfl)]
    rfl
  | false =>
    have hd2 : decide (domI v (x, y) ≥ 0) = true := by have := of_decide_eq_false hd; exact decide_eq_true (by omega)
    unfold lnkI idxN
    rw [Zdd (g' := fun k => bif domI v (x, y) == v.ZV.XB.getD k default then some (.inr (k : Int)) else none)]
    · rfl
    · intro i _
      unfold S.Ju
      rw [hd2, Bool.true_and, Bool.beq_comm]
theorem ZlQ {v : Xq} (h : VF v) (x y : Int) : S.UI v x y = upV v (x, y) := by
  unfold S.UI upV
  simp only [letS, Zkc, ZlH]
  cases hd : decide (domI v (x, y) < 0) with
  | true => rfl
  | false =>
    simp only [cond_false]
    have hr : runN (S.VX v (lnkI v (domI v (x, y)))) (.inl ()) 0 v.Qy.length = _ := ZgA (β := Unit ⊕ Bool) (fun k => v.Qy.getD k default == lnkI v (domI v (x, y))) (.inr false) (.inl ()) _
    rw [hr]
    have hc : anyN (fun k => v.Qy.getD k default == lnkI v (domI v (x, y))) v.Qy.length = anyN (fun k => lnkI v (domI v (x, y)) == v.Qy.getD k default) v.Qy.length := Zek fun k _ => Bool.beq_comm
    rw [hc]
    cases hl : decide (lnkI v (domI v (x, y)) < 0) with
    | false => cases anyN (fun k => lnkI v (domI v (x, y)) == v.Qy.getD k default) v.Qy.length <;> rfl
    | true =>
      have hl2 := of_decide_eq_true hl
      rw [GH.2 fun k hk => ?_]
      · rfl
      · rw [beq_eq_false_iff_ne]
        intro e
        have := (h.dpos (v.Qy.getD k default) (by rw [List.getD_eq_getElem?_getD, List.getElem?_eq_getElem hk]; exact List.getElem_mem hk)).1
        omega
theorem ZlM {v : Xq} (h : VF v) (x y : Int) : M.Ue v x y = some (nbs v (x, y)) := by
  unfold M.Ue
  rw [Zhz v x y h.L, ZlQ h]
  simp only [Option.bind_some]
  unfold nbs
  cases hu : upV v (x, y) with
  | false => rfl
  | true =>
    simp only [Bool.not_true, cond_false, cond_true]
    rw [GU v x y h.L, Zkc]
    have hd : ¬ domI v (x, y) < 0 := fun hh => by
      unfold upV at hu
      rw [decide_eq_true hh] at hu
      cases hu
    rcases Zby v (x, y) with ⟨k, h1, h2, h3⟩ | ⟨h1, _⟩
    · have hl := h.ends (V4 h1)
      rw [h3]
      simp only [Option.bind_some, Int.toNat_natCast]
      refine QJ (ZD (dt (by omega)) (ZD (dt (by omega)) Yc)) ?_
      rw [Zg0 (es := (v.ZV.Zv.getD k default).ZU) (by omega) (fun e => e.Xp != x)]
      · rfl
      · intro l i hi hli
        have hi1 : decide ((0 : Int) ≤ (i : Int)) = true := dt (by omega)
        have hi2 : decide ((i : Int) < ((v.ZV.Zv.getD k default).ZU.length : Int)) = true := dt (by omega)
        unfold M.W2
        simp only [gd, List.all_cons, List.all_nil, id, Bool.and_self, Bool.and_true, Bool.true_and, cond_true, Int.toNat_natCast, hi1, hi2]
        cases ((v.ZV.Zv.getD k default).ZU.getD i default).Xp != x with
        | true =>
          rw [cond_true, dt (show (l.length + 1) * 16 ≤ 140737488355328 by omega), cond_true]
          unfold M.Vo
          rw [up64 (n := 2000) (by omega) (by omega)]
          rfl
        | false =>
          rw [cond_false]
          unfold M.Vo
          rw [up64 (n := 2000) (by omega) (by omega)]
          rfl
      · intro l
        unfold M.W2
        simp only [Int.toNat_natCast, Int.lt_irrefl, decide_false, cond_false]
    · omega
end Nv
