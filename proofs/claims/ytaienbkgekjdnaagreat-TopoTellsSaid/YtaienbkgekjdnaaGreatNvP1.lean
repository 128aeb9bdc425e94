/- The plain law of TopoTells. No condition but the bounds of what comes in. -/
import Derived.Test.YtaienbkgekjdnaaGreatNvTo7
import Derived.Test.YtaienbkgekjdnaaGreatNvTo8
import Derived.Test.YtaienbkgekjdnaaGreatNvT2
set_option maxRecDepth 100000
namespace Nv
open Go
theorem Zlo {v : XM} (h : VF v) (x y a : Int) : M.Gi v x y a = some (ownL v a (nbs v (x, y))) := by
  unfold M.Gi ownL
  rw [ZkR h]
  simp only [Option.bind_some]
  have hl := Zf1 h (x, y)
  have hin : ∀ z ∈ nbs v (x, y), ∃ r i, r < v.VD.Zd.length ∧ i < nif v.VD r ∧ elig (ifc v.VD r i) = true ∧ z.XJ = (r : Int) ∧ z.XY = (i : Int) := fun z hz => ZjY h hz
  revert hl hin
  generalize nbs v (x, y) = l
  intro hl hin
  have hr := Xk (f := M.V7 v a l) (g := fun i => bif (ifc v.VD (l.getD i default).XJ.toNat (l.getD i default).XY.toNat).Zx == a then some (.inr (l.getD i default, true)) else none) (e := (.inl () : Unit ⊕ (XU × Bool))) (n := l.length) (fun i hi => ?_) (fun m hm => ?_) 0
  · rw [show loopM (M.V7 v a l) 0 = loopM (M.V7 v a l) ((0 : Nat) : Int) from rfl, hr]
    simp only [Option.bind_some, Nat.sub_zero]
    generalize runN _ (.inl () : Unit ⊕ (XU × Bool)) 0 l.length = z
    cases z <;> rfl
  · have hi1 : decide ((0 : Int) ≤ (i : Int)) = true := dt (by omega)
    have hi2 : decide ((i : Int) < (l.length : Int)) = true := dt (by omega)
    obtain ⟨r, j, g1, g2, g3, g4, g5⟩ := hin (l.getD i default) (by rw [List.getD_eq_getElem?_getD, List.getElem?_eq_getElem hi]; exact List.getElem_mem hi)
    have hat : M.RD v (l.getD i default) = some (ifc v.VD r j) := by
      unfold M.RD
      rw [g4, g5]
      simp only [Int.toNat_natCast]
      exact QB (ZC (dt (by omega)) (ZC (dt (by omega)) (ZC (dt (by omega)) (ZC (dt (Int.ofNat_lt.2 g2)) X9)))) rfl
    unfold M.V7
    simp only [hi2, cond_true, Int.toNat_natCast, hat, Option.bind_some, gd, List.all_cons, List.all_nil, id, Bool.and_self, Bool.and_true, hi1, g4, g5]
    cases (ifc v.VD r j).Zx == a with
    | true => rfl
    | false =>
      rw [cond_false, up64 (n := 2000) (by omega) (by omega)]
      rfl
  · unfold M.V7
    rw [decide_eq_false (show ¬ ((m : Int) < (l.length : Int)) by omega)]
    rfl
theorem ZiG (l : List XU) (hl : l.length ≤ maxLen) : M.W5 l l = some true := by
  rw [ZgK l l hl hl]
  unfold S.W5
  simp only [bne_self_eq_false, cond_false, letS]
  rw [Zfk]
  · rfl
  · intro i _
    unfold S.Vq
    simp
theorem ZdB (a0 : ZB) (a1 : List Int) (a2 a3 a4 : Int) (w0 : Zbf a0) (w1 : (a1.length ≤ maxLen ∧ a1.length * 8 ≤ reachBytes ∧ ∀ y ∈ a1, (Lit.int .i64 y).wf = true)) (_w2 : (Lit.int .i64 a2).wf = true) (_w3 : (Lit.int .i64 a3).wf = true) (_w4 : (Lit.int .u32 a4).wf = true) : M.Uu a0 a1 a2 a3 a4 = some true := by
  have ha := ZeY w0
  obtain ⟨v, ok, h1, h2⟩ := ZkL ha a1 w1.1
  unfold M.Uu
  rw [h1]
  simp only [Option.bind_some]
  cases ok with
  | false => rfl
  | true =>
    obtain ⟨h, _⟩ := h2 rfl
    have hM := Zq
    have hn := Zf1 h (a2, a3)
    simp only [Bool.not_true, cond_false, Zlm h, Zlo h, Option.bind_some, Gb v a2 a3 h.L, U0 v a2 a3 h.L, ZhV, ZhW, BEq.rfl, gc, cond_true, Zc9 v a2 a3 h.L, Zco v a2 a3 h.L, ZjX, ZjZ, Bool.and_self,
      Zfi v a2 a3 h.L, ZeD v a2 a3 h.L, Zll, Zln h, ZkQ h, ZkR h, ZiG _ (show (nbs v (a2, a3)).length ≤ maxLen by omega), Zil]
end Nv
