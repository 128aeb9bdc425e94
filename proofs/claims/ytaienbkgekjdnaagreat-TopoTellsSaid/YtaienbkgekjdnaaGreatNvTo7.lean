/- What the program tells of a view. No condition but the bounds of what comes in. -/
import Derived.Test.YtaienbkgekjdnaaGreatNvTo6
set_option maxRecDepth 100000
namespace Nv
open Go
theorem Zhk (d : Zh) (x y : Int) : S.ZY d.ZT (⟨x, y⟩ : XU) = has d (x, y) := by
  unfold S.ZY S.Z9
  simp only [letS]
  rw [← ZhU]
  refine Eq.trans (Zje (fun j => ((⟨x, y⟩ : XU).XJ == (d.ZT.getD j default).XJ) && (((⟨x, y⟩ : XU).XY == (d.ZT.getD j default).XY) && true)) d.ZT.length) (ZaZ fun j _ => ?_)
  simp only [Bool.and_true]
  rw [Bool.beq_comm (a := x), Bool.beq_comm (a := y)]
theorem ZhV (v : XM) (x y : Int) : S.Yr v x y = domI v (x, y) := by
  unfold S.Yr domI idxN
  simp only [letS]
  rw [Rv (g' := fun k => bif has (v.Xd.Zv.getD k default) (x, y) then some (.inr (k : Int)) else none)]
  intro j _
  unfold S.Yt
  simp only [letS, Zhk]
theorem ZjX (v : XM) (x y : Int) : S.Jw v x y = bif decide (domI v (x, y) < 0) then -1 else lnkI v (domI v (x, y)) := by
  unfold S.Jw
  simp only [letS, ZhV]
  rfl
theorem Zll (v : XM) (x y : Int) : S.Vg v x y = upV v (x, y) := by
  unfold S.Vg upV
  simp only [letS, ZhV, ZjX]
  cases hd : decide (domI v (x, y) < 0) with
  | true => rfl
  | false =>
    simp only [cond_false]
    have hc : S.Xw v.QY (lnkI v (domI v (x, y))) = anyN (fun k => lnkI v (domI v (x, y)) == v.QY.getD k default) v.QY.length :=
      Zje (fun k => lnkI v (domI v (x, y)) == v.QY.getD k default) v.QY.length
    rw [hc]
    cases decide (lnkI v (domI v (x, y)) < 0) <;> rfl
theorem ZiF {v : XM} (h : VF v) {x y : Int} {k : Nat} (hk : k < v.Xd.Zv.length) (he : (x, y) ∈ dends (v.Xd.Zv.getD k default)) :
    (v.Xd.Zv.getD k default).ZT.filter (fun e => e.XJ != x || e.XY != y) = (v.Xd.Zv.getD k default).ZT.filter (fun e => e.XJ != x) := by
  refine List.filter_congr fun e hm => ?_
  cases hr : e.XJ != x with
  | true => rfl
  | false =>
    have h1 : e.XJ = x := by simpa using hr
    have h2 := h.dom_up (UF hk) (List.mem_map.2 ⟨e, hm, rfl⟩) he h1
    unfold dend at h2
    simp only [Prod.mk.injEq] at h2
    simp [h2.2]
theorem ZkQ {v : XM} (h : VF v) (x y : Int) : M.WB v x y = some (nbs v (x, y)) := by
  unfold M.WB
  rw [Zfi v x y h.L, Zll]
  simp only [Option.bind_some]
  unfold nbs
  cases hu : upV v (x, y) with
  | false => rfl
  | true =>
    simp only [Bool.not_true, cond_false, cond_true]
    rw [Gb v x y h.L, ZhV]
    have hd : ¬ domI v (x, y) < 0 := fun hh => by
      unfold upV at hu
      rw [decide_eq_true hh] at hu
      cases hu
    rcases Zbn v (x, y) with ⟨k, h1, h2, h3⟩ | ⟨h1, _⟩
    · have hl := h.ends (UF h1)
      rw [h3]
      simp only [Option.bind_some, Int.toNat_natCast]
      refine QB (ZC (dt (by omega)) (ZC (dt (by omega)) X9)) ?_
      rw [← ZiF h h1 h2, Zda (es := (v.Xd.Zv.getD k default).ZT) (by omega) (fun e => e.XJ != x || e.XY != y)]
      · rfl
      · intro l i hi hli
        have hi1 : decide ((0 : Int) ≤ (i : Int)) = true := dt (by omega)
        have hi2 : decide ((i : Int) < ((v.Xd.Zv.getD k default).ZT.length : Int)) = true := dt (by omega)
        unfold M.Ua
        simp only [gd, List.all_cons, List.all_nil, id, Bool.and_self, Bool.and_true, cond_true, Int.toNat_natCast, hi1, hi2]
        cases ((v.Xd.Zv.getD k default).ZT.getD i default).XJ != x || ((v.Xd.Zv.getD k default).ZT.getD i default).XY != y with
        | true =>
          rw [cond_true, dt (show (l.length + 1) * 16 ≤ 140737488355328 by omega), cond_true]
          unfold M.VE
          rw [up64 (n := 2000) (by omega) (by omega)]
          rfl
        | false =>
          rw [cond_false]
          unfold M.VE
          rw [up64 (n := 2000) (by omega) (by omega)]
          rfl
      · intro l
        unfold M.Ua
        simp only [Int.toNat_natCast, Int.lt_irrefl, decide_false, cond_false]
    · omega
def ownL (v : XM) (a : Int) (l : List XU) : XU × Bool := Sum.elim (fun _ => ((⟨0, 0⟩ : XU), false)) (fun y => y) (runN (fun i => bif (ifc v.VD (l.getD i default).XJ.toNat (l.getD i default).XY.toNat).Zx == a then some (.inr (l.getD i default, true)) else none) (.inl () : Unit ⊕ (XU × Bool)) 0 l.length)
theorem Zf1 {v : XM} (h : VF v) (e : DEnd) : (nbs v e).length ≤ 108 := by
  unfold nbs
  cases upV v e with
  | false => exact Nat.zero_le _
  | true =>
    rw [cond_true]
    refine Nat.le_trans (List.length_filter_le _ _) ?_
    rcases Nat.lt_or_ge (domI v e).toNat v.Xd.Zv.length with hk | hk
    · exact h.ends (UF hk)
    · rw [List.getD_eq_getElem?_getD, List.getElem?_eq_none hk]
      exact Nat.zero_le _
theorem ZjY {v : XM} (h : VF v) {e : DEnd} {x : XU} (hx : x ∈ nbs v e) : ∃ r i, r < v.VD.Zd.length ∧ i < nif v.VD r ∧ elig (ifc v.VD r i) = true ∧ x.XJ = (r : Int) ∧ x.XY = (i : Int) := by
  obtain ⟨_, k, h1, _, _, h4, _⟩ := (ZkM h).1 hx
  obtain ⟨r, i, g1, g2, g3, _, g5, g6⟩ := h.inN (UF h1) h4
  exact ⟨r, i, g1, g2, g3, g5, g6⟩
theorem Zlm {v : XM} (h : VF v) (x y a : Int) : M.GE v x y a = some (ownL v a (nbs v (x, y))) := by
  unfold M.GE ownL
  rw [ZkQ h]
  simp only [Option.bind_some]
  have hl := Zf1 h (x, y)
  have hin : ∀ z ∈ nbs v (x, y), ∃ r i, r < v.VD.Zd.length ∧ i < nif v.VD r ∧ elig (ifc v.VD r i) = true ∧ z.XJ = (r : Int) ∧ z.XY = (i : Int) := fun z hz => ZjY h hz
  revert hl hin
  generalize nbs v (x, y) = l
  intro hl hin
  have hr := Xk (f := M.Wm v a l) (g := fun i => bif (ifc v.VD (l.getD i default).XJ.toNat (l.getD i default).XY.toNat).Zx == a then some (.inr (l.getD i default, true)) else none) (e := (.inl () : Unit ⊕ (XU × Bool))) (n := l.length) (fun i hi => ?_) (fun m hm => ?_) 0
  · rw [show loopM (M.Wm v a l) 0 = loopM (M.Wm v a l) ((0 : Nat) : Int) from rfl, hr]
    simp only [Option.bind_some, Nat.sub_zero]
    generalize runN _ (.inl () : Unit ⊕ (XU × Bool)) 0 l.length = z
    cases z <;> rfl
  · have hi1 : decide ((0 : Int) ≤ (i : Int)) = true := dt (by omega)
    have hi2 : decide ((i : Int) < (l.length : Int)) = true := dt (by omega)
    obtain ⟨r, j, g1, g2, g3, g4, g5⟩ := hin (l.getD i default) (by rw [List.getD_eq_getElem?_getD, List.getElem?_eq_getElem hi]; exact List.getElem_mem hi)
    have hat : S.QL v (l.getD i default) = (ifc v.VD r j, true) := by
      unfold S.QL
      rw [g4, g5]
      have q1 : decide (((r : Nat) : Int) < 0) = false := decide_eq_false (by omega)
      have q2 : decide (((r : Nat) : Int) ≥ (v.VD.Zd.length : Int)) = false := decide_eq_false (by omega)
      have q3 : decide (((j : Nat) : Int) < 0) = false := decide_eq_false (by omega)
      have q4 : decide (((j : Nat) : Int) ≥ (((v.VD.Zd.getD r default).Zc).length : Int)) = false := decide_eq_false (fun hh => by have := Int.ofNat_le.1 hh; unfold nif at g2; omega)
      simp only [q1, q2, q3, q4, Int.toNat_natCast, Bool.or_self, cond_false]
      rfl
    unfold M.Wm
    simp only [gd, List.all_cons, List.all_nil, id, Bool.and_self, Bool.and_true, cond_true, Int.toNat_natCast, hi1, hi2]
    rw [Zbm v _ h.L, hat]
    simp only [Option.bind_some, Bool.true_and, g4, g5, Int.toNat_natCast]
    cases (ifc v.VD r j).Zx == a with
    | true => rfl
    | false =>
      rw [cond_false, up64 (n := 2000) (by omega) (by omega)]
      rfl
  · unfold M.Wm
    rw [decide_eq_false (show ¬ ((m : Int) < (l.length : Int)) by omega)]
    rfl
end Nv
