/- The plain law of TopoSymmetric. No condition but the bounds of what comes in. -/
import Derived.Test.YtaienbkgekjdnaaGreatNvTo7
import Derived.Test.YtaienbkgekjdnaaGreatNvT2
set_option maxRecDepth 100000
namespace Nv
open Go
def adr (v : X3) (z : X8) : Int := (ifc v.Qq z.Z5.toNat z.XY.toNat).Zs
theorem ZeW {v : X3} {a : Int} {l : List X8} {z : X8} (hz : z ∈ l) (ha : adr v z = a) (hu : ∀ w ∈ l, adr v w = a → w = z) : ownL v a l = (z, true) := by
  unfold ownL
  have hm : ∀ j, j < l.length → l.getD j default ∈ l := fun j hj => by
    rw [List.getD_eq_getElem?_getD, List.getElem?_eq_getElem hj]; exact List.getElem_mem hj
  rcases W5 (fun i => bif (ifc v.Qq (l.getD i default).Z5.toNat (l.getD i default).XY.toNat).Zs == a then some (.inr (l.getD i default, true)) else none) (.inl () : Unit ⊕ (X8 × Bool)) l.length 0 with ⟨j, h1, h2, h3, h4⟩ | ⟨h1, h2⟩
  · revert h3
    generalize runN _ (.inl () : Unit ⊕ (X8 × Bool)) 0 l.length = y
    intro h3
    cases hb : (ifc v.Qq (l.getD j default).Z5.toNat (l.getD j default).XY.toNat).Zs == a with
    | false => rw [hb] at h3; cases h3
    | true =>
      rw [hb] at h3
      simp only [cond_true, Option.some.injEq] at h3
      rw [← h3, Sum.elim_inr, hu _ (hm j (by omega)) (by unfold adr; simpa using hb)]
  · obtain ⟨j, hj, hjz⟩ := List.getElem_of_mem hz
    have hg : l.getD j default = z := by rw [List.getD_eq_getElem?_getD, List.getElem?_eq_getElem hj]; exact hjz
    have := h2 j (Nat.zero_le _) (by omega)
    simp only [hg] at this
    unfold adr at ha
    rw [ha, BEq.rfl] at this
    cases this
theorem ZeX {a : Zf} {x : Int} (h : S.QP a x < 0) {j : Nat} (hj : j < a.Zc.length) (hl : (a.Zc.getD j default).ZR ≠ 0) : (a.Zc.getD j default).Zs ≠ x := fun he => by
  have h1 : decide (S.QP a x < 0) = !anyN (fun j => ((a.Zc.getD j default).ZR != 0) && ((a.Zc.getD j default).Zs == x)) a.Zc.length := Zka _ _
  rw [decide_eq_true h, Uc.2 ⟨j, hj, by rw [he]; simpa using hl⟩] at h1
  cases h1
theorem Zcb {x : Zl} (h : elig x = true) : x.ZR ≠ 0 := fun hh => by unfold elig at h; rw [hh] at h; cases h
theorem Zg7 {v : X3} (h : VF v) {r i r' i' : Nat} (h1 : r < v.Qq.Zd.length) (h2 : i < nif v.Qq r) (h3 : elig (ifc v.Qq r i) = true) (g1 : r' < v.Qq.Zd.length) (g2 : i' < nif v.Qq r') (g3 : elig (ifc v.Qq r' i') = true) (hne : r ≠ r') : (ifc v.Qq r i).Zs ≠ (ifc v.Qq r' i').Zs := by
  rcases Nat.lt_or_ge r r' with g | g
  · exact ZeX ((rcheck h.chk g1).2 i' g2 (Zcb g3) r g) h2 (Zcb h3)
  · exact fun e => ZeX ((rcheck h.chk h1).2 i h2 (Zcb h3) r' (by omega)) g2 (Zcb g3) e.symm
theorem ZjL {v : X3} (h : VF v) {r i : Nat} {x : X8} (hx : x ∈ nbs v ((r : Int), (i : Int))) : (⟨(r : Int), (i : Int)⟩ : X8) ∈ nbs v (dend x) := by
  obtain ⟨hu, k, h1, h2, h3, h4, h5⟩ := (R9 h).1 hx
  have h6 := h.domI_eq h1 h4
  refine (R9 h).2 ⟨?_, k, h1, h6, h4, h3, fun e => h5 e.symm⟩
  unfold upV at hu ⊢
  rw [h6, ← h2]
  exact hu
theorem Zgv {v : X3} (h : VF v) {e : DEnd} {x z : X8} (hx : x ∈ nbs v e) (hz : z ∈ nbs v e) (ha : adr v z = adr v x) : z = x := by
  obtain ⟨r, i, g1, g2, g3, g4, g5⟩ := ZfG h hx
  obtain ⟨r', i', k1, k2, k3, k4, k5⟩ := ZfG h hz
  obtain ⟨_, k, h1, h2, _, h4, _⟩ := (R9 h).1 hx
  obtain ⟨_, k', j1, j2, _, j4, _⟩ := (R9 h).1 hz
  obtain rfl : k = k' := by omega
  by_cases hr : r = r'
  · subst hr
    have := h.dom_up (WB h1) j4 h4 (by show z.Z5 = x.Z5; rw [k4, g4])
    exact Zgr this
  · unfold adr at ha
    rw [k4, k5, g4, g5] at ha
    simp only [Int.toNat_natCast] at ha
    exact absurd ha.symm (Zg7 h g1 g2 g3 k1 k2 k3 hr)
section
variable {v : X3} {ok : Bool}
theorem Zla (h : VF v) {r i : Nat} (hr : r < v.Qq.Zd.length) (hi : i < nif v.Qq r) :
    loopM (M.Jj v.Qq (v, ok) (r : Int) (i : Int) (nbs v ((r : Int), (i : Int)))) 0 = some (.inl ()) := by
  have hn := ZhE h ((r : Int), (i : Int))
  have hl := UO (f := M.Jj v.Qq (v, ok) (r : Int) (i : Int) (nbs v ((r : Int), (i : Int)))) (σ := Unit) (fun j _ => (j : Int)) (nbs v ((r : Int), (i : Int))).length (fun _ _ => True) (fun y => y = .inl ())
    (fun p _ hp _ => ?_) (fun _ _ => ?_) _ 0 () (Nat.zero_add _) trivial
  · obtain ⟨y, h1, rfl⟩ := hl
    exact h1
  · left
    refine ⟨(), ?_, trivial⟩
    have hx : (nbs v ((r : Int), (i : Int))).getD p default ∈ nbs v ((r : Int), (i : Int)) := by rw [List.getD_eq_getElem?_getD, List.getElem?_eq_getElem hp]; exact List.getElem_mem hp
    have q1 : decide ((0 : Int) ≤ (p : Int)) = true := dt (by omega)
    have q2 : decide ((p : Int) < ((nbs v ((r : Int), (i : Int))).length : Int)) = true := dt (by omega)
    unfold M.Jj
    obtain ⟨r', i', g1, g2, g3, g4, g5⟩ := ZfG h hx
    have hne : (r' : Int) ≠ (r : Int) := by
      obtain ⟨_, _, _, _, _, _, h7⟩ := (R9 h).1 hx
      rw [g4] at h7; exact h7
    have a1 : decide ((r' : Int) < 0) = false := decide_eq_false (by omega)
    have a2 : decide ((r' : Int) ≥ (v.Qq.Zd.length : Int)) = false := decide_eq_false (by omega)
    have a3 : ((r' : Int) == (r : Int)) = false := by simpa using hne
    have a4 : decide ((i' : Int) < 0) = false := decide_eq_false (by omega)
    have a5 : decide ((i' : Int) ≥ (((v.Qq.Zd.getD r' default).Zc).length : Int)) = false := decide_eq_false (fun hh => by have := Int.ofNat_le.1 hh; unfold nif at g2; omega)
    have a6 : decide ((0 : Int) ≤ (r' : Int)) = true := dt (by omega)
    have a7 : decide ((r' : Int) < (v.Qq.Zd.length : Int)) = true := dt (by omega)
    have a8 : decide ((0 : Int) ≤ (i' : Int)) = true := dt (by omega)
    have a9 : decide ((i' : Int) < (((v.Qq.Zd.getD r' default).Zc).length : Int)) = true := dt (Int.ofNat_lt.2 g2)
    have b1 : decide ((0 : Int) ≤ (r : Int)) = true := dt (by omega)
    have b2 : decide ((r : Int) < (v.Qq.Zd.length : Int)) = true := dt (by omega)
    have b3 : decide ((0 : Int) ≤ (i : Int)) = true := dt (by omega)
    have b4 : decide ((i : Int) < (((v.Qq.Zd.getD r default).Zc).length : Int)) = true := dt (Int.ofNat_lt.2 hi)
    have hgt : ∀ g, guardB g true = true := fun g => by cases g <;> rfl
    have hax : adr v ((nbs v ((r : Int), (i : Int))).getD p default) = ((v.Qq.Zd.getD r' default).Zc.getD i' default).Zs := by unfold adr; rw [g4, g5]; rfl
    have o1 : M.W9 v (r' : Int) (i' : Int) ((v.Qq.Zd.getD r default).Zc.getD i default).Zs = some (⟨(r : Int), (i : Int)⟩, true) := by
      rw [ZkH h]
      have hb := ZjL h hx
      unfold dend at hb
      rw [g4, g5] at hb
      have hA : adr v ⟨(r : Int), (i : Int)⟩ = ((v.Qq.Zd.getD r default).Zc.getD i default).Zs := rfl
      rw [ZeW hb hA fun w hw hwa => Zgv h hb hw (hwa.trans hA.symm)]
    have o2 : M.W9 v (r : Int) (i : Int) ((v.Qq.Zd.getD r' default).Zc.getD i' default).Zs = some ((nbs v ((r : Int), (i : Int))).getD p default, true) := by
      rw [ZkH h, ZeW hx hax fun w hw hwa => Zgv h hx hw (hwa.trans hax.symm)]
    simp only [q1, q2, g4, g5, Int.toNat_natCast, a1, a2, a3, a4, a5, a6, a7, a8, a9, b1, b2, b3, b4, hgt, o1, o2, gd, List.all_cons, List.all_nil, id, Bool.and_self, Bool.and_true, cond_true, Bool.or_self, cond_false, Option.bind_some, BEq.rfl, Bool.not_true]
    rw [up64 (n := 2000) (by omega) (by omega)]
  · unfold M.Jj
    simp only [Int.lt_irrefl, decide_false, cond_false]
    exact ⟨_, rfl, rfl⟩
theorem Zlb (h : VF v) {r : Nat} (hr : r < v.Qq.Zd.length) : loopM (M.Jk v.Qq (v, ok) (r : Int)) 0 = some (.inl ()) := by
  have hI := h.ni r
  have hr1 : decide ((0 : Int) ≤ (r : Int)) = true := dt (by omega)
  have hr2 : decide ((r : Int) < (v.Qq.Zd.length : Int)) = true := dt (by omega)
  have hl := UO (f := M.Jk v.Qq (v, ok) (r : Int)) (σ := Unit) (fun i _ => (i : Int)) (nif v.Qq r) (fun _ _ => True) (fun y => y = .inl ())
    (fun i _ hi _ => ?_) (fun _ _ => ?_) (nif v.Qq r) 0 () (by omega) trivial
  · obtain ⟨y, h1, rfl⟩ := hl
    exact h1
  · left
    refine ⟨(), ?_, trivial⟩
    have hi2 : decide ((i : Int) < (((v.Qq.Zd.getD r default).Zc).length : Int)) = true := dt (Int.ofNat_lt.2 hi)
    unfold M.Jk
    simp only [gd, List.all_cons, List.all_nil, id, Bool.and_self, Bool.and_true, cond_true, hr1, hr2, Int.toNat_natCast, hi2, ZkG h, Option.bind_some, Zla h hr hi, Sum.elim_inl]
    rw [up64 (n := 2000) (by omega) (by omega)]
  · unfold M.Jk
    simp only [gd, List.all_cons, List.all_nil, id, Bool.and_self, Bool.and_true, cond_true, hr1, hr2, Int.toNat_natCast]
    rw [decide_eq_false (show ¬ ((nif v.Qq r : Int) < (((v.Qq.Zd.getD r default).Zc).length : Int)) from fun h => Nat.lt_irrefl _ (Int.ofNat_lt.1 h)), cond_false]
    exact ⟨_, rfl, rfl⟩
theorem Zlc (h : VF v) : loopM (M.Jl v.Qq (v, ok)) 0 = some (.inl ()) := by
  have hR := h.nr
  have hl := UO (f := M.Jl v.Qq (v, ok)) (σ := Unit) (fun i _ => (i : Int)) v.Qq.Zd.length (fun _ _ => True) (fun y => y = .inl ())
    (fun r _ hr _ => ?_) (fun _ _ => ?_) v.Qq.Zd.length 0 () (by omega) trivial
  · obtain ⟨y, h1, rfl⟩ := hl
    exact h1
  · left
    refine ⟨(), ?_, trivial⟩
    have hr2 : decide ((r : Int) < (v.Qq.Zd.length : Int)) = true := dt (by omega)
    unfold M.Jl
    simp only [hr2, cond_true, Zlb h hr, Option.bind_some, Sum.elim_inl]
    rw [up64 (n := 2000) (by omega) (by omega)]
  · unfold M.Jl
    simp only [Int.lt_irrefl, decide_false, cond_false]
    exact ⟨_, rfl, rfl⟩
end
theorem Zas (a0 : Zw) (a1 : List Int) (w0 : Za0 a0) (w1 : (a1.length ≤ maxLen ∧ a1.length * 8 ≤ reachBytes ∧ ∀ y ∈ a1, (Lit.int .i64 y).wf = true)) : M.Wl a0 a1 = some true := by
  have ha := ZeA w0
  obtain ⟨v, ok, h1, h2⟩ := ZkB ha a1 w1.1
  unfold M.Wl
  rw [h1]
  simp only [Option.bind_some]
  cases ok with
  | false => rfl
  | true =>
    obtain ⟨h, h3, _⟩ := h2 rfl
    have hs := Zlc (ok := true) h
    rw [h3] at hs
    simp only [Bool.not_true, cond_false, hs, Option.bind_some, Sum.elim_inl, Zh5]
end Nv
