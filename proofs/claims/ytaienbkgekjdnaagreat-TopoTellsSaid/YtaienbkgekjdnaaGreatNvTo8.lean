/- What the reference tells of a view. No condition but the bounds of what comes in. -/
import Derived.Test.YtaienbkgekjdnaaGreatNvTo6
set_option maxRecDepth 100000
namespace Nv
open Go
theorem ZhW (v : XM) (x y : Int) : S.Qw v x y = domI v (x, y) := by
  unfold S.Qw domI idxN
  simp only [letS]
  rw [Rv (g' := fun k => bif has (v.Xd.Zv.getD k default) (x, y) then some (.inr (k : Int)) else none)]
  intro j _
  unfold S.Jf
  simp only [letS]
  have h : runN (S.Je v x y j) (.inl ()) 0 ((v.Xd.Zv.getD j default).ZT.length) = _ := Zgo (β := Unit ⊕ Int) (fun k => (((v.Xd.Zv.getD j default).ZT.getD k default).XJ == x) && ((((v.Xd.Zv.getD j default).ZT.getD k default).XY == y) && true)) (.inr (j : Int)) (.inl ()) _
  rw [h]
  have h2 : anyN (fun k => (((v.Xd.Zv.getD j default).ZT.getD k default).XJ == x) && ((((v.Xd.Zv.getD j default).ZT.getD k default).XY == y) && true)) (v.Xd.Zv.getD j default).ZT.length = has (v.Xd.Zv.getD j default) (x, y) := by
    rw [← ZhU]
    exact ZaZ fun k _ => by rw [Bool.and_true]
  rw [h2]
  cases has (v.Xd.Zv.getD j default) (x, y) <;> rfl
theorem ZjZ (v : XM) (x y : Int) : S.VJ v x y = bif decide (domI v (x, y) < 0) then -1 else lnkI v (domI v (x, y)) := by
  unfold S.VJ
  simp only [letS, ZhW]
  cases hd : decide (domI v (x, y) < 0) with
  | true =>
    have hd2 : decide (domI v (x, y) ≥ 0) = false := by have := of_decide_eq_true hd; exact decide_eq_false (by omega)
    rw [Zfk (fun i _ => by unfold S.Jz; rw [hd2]; rfl)]
    rfl
  | false =>
    have hd2 : decide (domI v (x, y) ≥ 0) = true := by have := of_decide_eq_false hd; exact decide_eq_true (by omega)
    unfold lnkI idxN
    rw [Rv (g' := fun k => bif domI v (x, y) == v.Xd.YC.getD k default then some (.inr (k : Int)) else none)]
    · rfl
    · intro i _
      unfold S.Jz
      rw [hd2, Bool.true_and, Bool.beq_comm]
theorem Zln {v : XM} (h : VF v) (x y : Int) : S.Uh v x y = upV v (x, y) := by
  unfold S.Uh upV
  simp only [letS, ZhW, ZjZ]
  cases hd : decide (domI v (x, y) < 0) with
  | true => rfl
  | false =>
    simp only [cond_false]
    have hr : runN (S.VV v (lnkI v (domI v (x, y)))) (.inl ()) 0 v.QY.length = _ := Zgo (β := Unit ⊕ Bool) (fun k => v.QY.getD k default == lnkI v (domI v (x, y))) (.inr false) (.inl ()) _
    rw [hr]
    have hc : anyN (fun k => v.QY.getD k default == lnkI v (domI v (x, y))) v.QY.length = anyN (fun k => lnkI v (domI v (x, y)) == v.QY.getD k default) v.QY.length := ZaZ fun k _ => Bool.beq_comm
    rw [hc]
    cases hl : decide (lnkI v (domI v (x, y)) < 0) with
    | false => cases anyN (fun k => lnkI v (domI v (x, y)) == v.QY.getD k default) v.QY.length <;> rfl
    | true =>
      have hl2 := of_decide_eq_true hl
      rw [GA.2 fun k hk => ?_]
      · rfl
      · rw [beq_eq_false_iff_ne]
        intro e
        have := (h.dpos (v.QY.getD k default) (by rw [List.getD_eq_getElem?_getD, List.getElem?_eq_getElem hk]; exact List.getElem_mem hk)).1
        omega
theorem ZkR {v : XM} (h : VF v) (x y : Int) : M.Wc v x y = some (nbs v (x, y)) := by
  unfold M.Wc
  rw [ZeD v x y h.L, Zln h]
  simp only [Option.bind_some]
  unfold nbs
  cases hu : upV v (x, y) with
  | false => rfl
  | true =>
    simp only [Bool.not_true, cond_false, cond_true]
    rw [U0 v x y h.L, ZhW]
    have hd : ¬ domI v (x, y) < 0 := fun hh => by
      unfold upV at hu
      rw [decide_eq_true hh] at hu
      cases hu
    rcases Zbn v (x, y) with ⟨k, h1, h2, h3⟩ | ⟨h1, _⟩
    · have hl := h.ends (UF h1)
      rw [h3]
      simp only [Option.bind_some, Int.toNat_natCast]
      refine QB (ZC (dt (by omega)) (ZC (dt (by omega)) X9)) ?_
      rw [Zda (es := (v.Xd.Zv.getD k default).ZT) (by omega) (fun e => e.XJ != x)]
      · rfl
      · intro l i hi hli
        have hi1 : decide ((0 : Int) ≤ (i : Int)) = true := dt (by omega)
        have hi2 : decide ((i : Int) < ((v.Xd.Zv.getD k default).ZT.length : Int)) = true := dt (by omega)
        unfold M.WR
        simp only [gd, List.all_cons, List.all_nil, id, Bool.and_self, Bool.and_true, Bool.true_and, cond_true, Int.toNat_natCast, hi1, hi2]
        cases ((v.Xd.Zv.getD k default).ZT.getD i default).XJ != x with
        | true =>
          rw [cond_true, dt (show (l.length + 1) * 16 ≤ 140737488355328 by omega), cond_true]
          unfold M.Vl
          rw [up64 (n := 2000) (by omega) (by omega)]
          rfl
        | false =>
          rw [cond_false]
          unfold M.Vl
          rw [up64 (n := 2000) (by omega) (by omega)]
          rfl
      · intro l
        unfold M.WR
        simp only [Int.toNat_natCast, Int.lt_irrefl, decide_false, cond_false]
    · omega
end Nv
