/- What the program tells of a view. No condition but the bounds of what comes in. -/
import Derived.Test.YtaienbkgekjdnaaGreatNvTo6
set_option maxRecDepth 100000
namespace Nv
open Go
theorem Zg6 (d : Zg) (x y : Int) : S.ZU d.ZZ (⟨x, y⟩ : X8) = has d (x, y) := by
  unfold S.ZU S.Z9
  simp only [letS]
  rw [← ZkC]
  refine Eq.trans (Zi0 (fun j => ((⟨x, y⟩ : X8).Z5 == (d.ZZ.getD j default).Z5) && (((⟨x, y⟩ : X8).XY == (d.ZZ.getD j default).XY) && true)) d.ZZ.length) (ZgN fun j _ => ?_)
  simp only [Bool.and_true]
  rw [Bool.beq_comm (a := x), Bool.beq_comm (a := y)]
theorem ZjK (v : X3) (x y : Int) : S.Yw v x y = domI v (x, y) := by
  unfold S.Yw domI idxN
  simp only [letS]
  rw [Zf3 (g' := fun k => bif has (v.XW.Z1.getD k default) (x, y) then some (.inr (k : Int)) else none)]
  intro j _
  unfold S.Yq
  simp only [letS, Zg6]
theorem Zk9 (v : X3) (x y : Int) : S.JR v x y = bif decide (domI v (x, y) < 0) then -1 else lnkI v (domI v (x, y)) := by
  unfold S.JR
  simp only [letS, ZjK]
  rfl
theorem Zlf (v : X3) (x y : Int) : S.Vl v x y = upV v (x, y) := by
  unfold S.Vl upV
  simp only [letS, ZjK, Zk9]
  cases hd : decide (domI v (x, y) < 0) with
  | true => rfl
  | false =>
    simp only [cond_false]
    have hc : S.Xv v.V0 (lnkI v (domI v (x, y))) = anyN (fun k => lnkI v (domI v (x, y)) == v.V0.getD k default) v.V0.length :=
      Zi0 (fun k => lnkI v (domI v (x, y)) == v.V0.getD k default) v.V0.length
    rw [hc]
    cases decide (lnkI v (domI v (x, y)) < 0) <;> rfl
theorem Zis {v : X3} (h : VF v) {x y : Int} {k : Nat} (hk : k < v.XW.Z1.length) (he : (x, y) ∈ dends (v.XW.Z1.getD k default)) :
    (v.XW.Z1.getD k default).ZZ.filter (fun e => e.Z5 != x || e.XY != y) = (v.XW.Z1.getD k default).ZZ.filter (fun e => e.Z5 != x) := by
  refine List.filter_congr fun e hm => ?_
  cases hr : e.Z5 != x with
  | true => rfl
  | false =>
    have h1 : e.Z5 = x := by simpa using hr
    have h2 := h.dom_up (WB hk) (List.mem_map.2 ⟨e, hm, rfl⟩) he h1
    unfold dend at h2
    simp only [Prod.mk.injEq] at h2
    simp [h2.2]
theorem ZkG {v : X3} (h : VF v) (x y : Int) : M.Wt v x y = some (nbs v (x, y)) := by
  unfold M.Wt
  rw [Zii v x y h.L, Zlf]
  simp only [Option.bind_some]
  unfold nbs
  cases hu : upV v (x, y) with
  | false => rfl
  | true =>
    simp only [Bool.not_true, cond_false, cond_true]
    rw [GY v x y h.L, ZjK]
    have hd : ¬ domI v (x, y) < 0 := fun hh => by
      unfold upV at hu
      rw [decide_eq_true hh] at hu
      cases hu
    rcases Za8 v (x, y) with ⟨k, h1, h2, h3⟩ | ⟨h1, _⟩
    · have hl := h.ends (WB h1)
      rw [h3]
      simp only [Option.bind_some, Int.toNat_natCast]
      refine Jd (ZO (dt (by omega)) (ZO (dt (by omega)) Yi)) ?_
      rw [← Zis h h1 h2, Zgu (es := (v.XW.Z1.getD k default).ZZ) (by omega) (fun e => e.Z5 != x || e.XY != y)]
      · rfl
      · intro l i hi hli
        have hi1 : decide ((0 : Int) ≤ (i : Int)) = true := dt (by omega)
        have hi2 : decide ((i : Int) < ((v.XW.Z1.getD k default).ZZ.length : Int)) = true := dt (by omega)
        unfold M.W0
        simp only [gd, List.all_cons, List.all_nil, id, Bool.and_self, Bool.and_true, cond_true, Int.toNat_natCast, hi1, hi2]
        cases ((v.XW.Z1.getD k default).ZZ.getD i default).Z5 != x || ((v.XW.Z1.getD k default).ZZ.getD i default).XY != y with
        | true =>
          rw [cond_true, dt (show (l.length + 1) * 16 ≤ 140737488355328 by omega), cond_true]
          unfold M.Vx
          rw [up64 (n := 2000) (by omega) (by omega)]
          rfl
        | false =>
          rw [cond_false]
          unfold M.Vx
          rw [up64 (n := 2000) (by omega) (by omega)]
          rfl
      · intro l
        unfold M.W0
        simp only [Int.toNat_natCast, Int.lt_irrefl, decide_false, cond_false]
    · omega
def ownL (v : X3) (a : Int) (l : List X8) : X8 × Bool := Sum.elim (fun _ => ((⟨0, 0⟩ : X8), false)) (fun y => y) (runN (fun i => bif (ifc v.Qq (l.getD i default).Z5.toNat (l.getD i default).XY.toNat).Zs == a then some (.inr (l.getD i default, true)) else none) (.inl () : Unit ⊕ (X8 × Bool)) 0 l.length)
theorem ZhE {v : X3} (h : VF v) (e : DEnd) : (nbs v e).length ≤ 108 := by
  unfold nbs
  cases upV v e with
  | false => exact Nat.zero_le _
  | true =>
    rw [cond_true]
    refine Nat.le_trans (List.length_filter_le _ _) ?_
    rcases Nat.lt_or_ge (domI v e).toNat v.XW.Z1.length with hk | hk
    · exact h.ends (WB hk)
    · rw [List.getD_eq_getElem?_getD, List.getElem?_eq_none hk]
      exact Nat.zero_le _
theorem ZfG {v : X3} (h : VF v) {e : DEnd} {x : X8} (hx : x ∈ nbs v e) : ∃ r i, r < v.Qq.Zd.length ∧ i < nif v.Qq r ∧ elig (ifc v.Qq r i) = true ∧ x.Z5 = (r : Int) ∧ x.XY = (i : Int) := by
  obtain ⟨_, k, h1, _, _, h4, _⟩ := (R9 h).1 hx
  obtain ⟨r, i, g1, g2, g3, _, g5, g6⟩ := h.inN (WB h1) h4
  exact ⟨r, i, g1, g2, g3, g5, g6⟩
theorem ZkH {v : X3} (h : VF v) (x y a : Int) : M.W9 v x y a = some (ownL v a (nbs v (x, y))) := by
  unfold M.W9 ownL
  rw [ZkG h]
  simp only [Option.bind_some]
  have hl := ZhE h (x, y)
  have hin : ∀ z ∈ nbs v (x, y), ∃ r i, r < v.Qq.Zd.length ∧ i < nif v.Qq r ∧ elig (ifc v.Qq r i) = true ∧ z.Z5 = (r : Int) ∧ z.XY = (i : Int) := fun z hz => ZfG h hz
  revert hl hin
  generalize nbs v (x, y) = l
  intro hl hin
  have hr := Xz (f := M.We v a l) (g := fun i => bif (ifc v.Qq (l.getD i default).Z5.toNat (l.getD i default).XY.toNat).Zs == a then some (.inr (l.getD i default, true)) else none) (e := (.inl () : Unit ⊕ (X8 × Bool))) (n := l.length) (fun i hi => ?_) (fun m hm => ?_) 0
  · rw [show loopM (M.We v a l) 0 = loopM (M.We v a l) ((0 : Nat) : Int) from rfl, hr]
    simp only [Option.bind_some, Nat.sub_zero]
    generalize runN _ (.inl () : Unit ⊕ (X8 × Bool)) 0 l.length = z
    cases z <;> rfl
  · have hi1 : decide ((0 : Int) ≤ (i : Int)) = true := dt (by omega)
    have hi2 : decide ((i : Int) < (l.length : Int)) = true := dt (by omega)
    obtain ⟨r, j, g1, g2, g3, g4, g5⟩ := hin (l.getD i default) (by rw [List.getD_eq_getElem?_getD, List.getElem?_eq_getElem hi]; exact List.getElem_mem hi)
    have hat : S.QI v (l.getD i default) = (ifc v.Qq r j, true) := by
      unfold S.QI
      rw [g4, g5]
      have q1 : decide (((r : Nat) : Int) < 0) = false := decide_eq_false (by omega)
      have q2 : decide (((r : Nat) : Int) ≥ (v.Qq.Zd.length : Int)) = false := decide_eq_false (by omega)
      have q3 : decide (((j : Nat) : Int) < 0) = false := decide_eq_false (by omega)
      have q4 : decide (((j : Nat) : Int) ≥ (((v.Qq.Zd.getD r default).Zc).length : Int)) = false := decide_eq_false (fun hh => by have := Int.ofNat_le.1 hh; unfold nif at g2; omega)
      simp only [q1, q2, q3, q4, Int.toNat_natCast, Bool.or_self, cond_false]
      rfl
    unfold M.We
    simp only [gd, List.all_cons, List.all_nil, id, Bool.and_self, Bool.and_true, cond_true, Int.toNat_natCast, hi1, hi2]
    rw [Za7 v _ h.L, hat]
    simp only [Option.bind_some, Bool.true_and, g4, g5, Int.toNat_natCast]
    cases (ifc v.Qq r j).Zs == a with
    | true => rfl
    | false =>
      rw [cond_false, up64 (n := 2000) (by omega) (by omega)]
      rfl
  · unfold M.We
    rw [decide_eq_false (show ¬ ((m : Int) < (l.length : Int)) by omega)]
    rfl
end Nv
