/- The order of routes: comparing lists of numbers. -/
import Derived.Test.YtkonldpliejgpaaNvT1
import Derived.Test.YtkonldpliejgpaaNvLibB
namespace Nv
open Go
def cmpI (x y : Int) : Int := if x < y then -1 else if x > y then 1 else 0
theorem cmpI_self (x : Int) : cmpI x x = 0 := by unfold cmpI; simp
theorem cmpI_swap (x y : Int) : cmpI y x = -cmpI x y := by unfold cmpI; split <;> split <;> (try split) <;> omega
theorem cmpI_zero {x y : Int} (h : cmpI x y = 0) : x = y := by unfold cmpI at h; split at h <;> (try split at h) <;> omega
theorem cmpI_lt {x y : Int} : cmpI x y < 0 ↔ x < y := by unfold cmpI; split <;> (try split) <;> omega
theorem cmpI_le {x y : Int} : cmpI x y ≤ 0 ↔ x ≤ y := by unfold cmpI; split <;> (try split) <;> omega
def cmpL : List Int → List Int → Int
  | x :: l, y :: m => bif cmpI x y != 0 then cmpI x y else cmpL l m
  | _, _ => 0
theorem cmpL_self : ∀ l, cmpL l l = 0
  | [] => rfl
  | x :: l => by unfold cmpL; rw [cmpI_self]; exact cmpL_self l
theorem cmpL_swap : ∀ l m, cmpL m l = -cmpL l m
  | [], [] => rfl
  | [], _ :: _ => rfl
  | _ :: _, [] => rfl
  | x :: l, y :: m => by
    unfold cmpL
    rw [cmpI_swap x y]
    cases h : cmpI x y != 0 with
    | true =>
      have : (-cmpI x y != 0) = true := by simp at h ⊢; omega
      rw [this]; rfl
    | false =>
      have : (-cmpI x y != 0) = false := by simp at h ⊢; omega
      rw [this]; exact cmpL_swap l m
theorem cmpL_trans : ∀ l m n : List Int, l.length = m.length → m.length = n.length → cmpL l m ≤ 0 → cmpL m n ≤ 0 → cmpL l n ≤ 0
  | [], [], [], _, _, _, _ => by unfold cmpL; decide
  | x :: l, y :: m, z :: n, h1, h2, h3, h4 => by
    unfold cmpL at h3 h4 ⊢
    have ih := cmpL_trans l m n (by simpa using h1) (by simpa using h2)
    cases ha : cmpI x y != 0 with
    | true =>
      rw [ha] at h3
      simp only [cond_true] at h3
      have hxy : x < y := cmpI_lt.1 (by simp at ha; omega)
      have hyz : y ≤ z := by
        cases hb : cmpI y z != 0 with
        | true => rw [hb] at h4; exact cmpI_le.1 h4
        | false => have := cmpI_zero (x := y) (y := z) (by simpa using hb); omega
      have : cmpI x z < 0 := cmpI_lt.2 (by omega)
      have e : (cmpI x z != 0) = true := by simp; omega
      rw [e]; simp only [cond_true]; omega
    | false =>
      rw [ha] at h3
      simp only [cond_false] at h3
      have hxy := cmpI_zero (x := x) (y := y) (by simpa using ha)
      subst hxy
      cases hb : cmpI x z != 0 with
      | true => rw [hb] at h4; exact h4
      | false => rw [hb] at h4; exact ih h3 h4
theorem q_cmp (x y : Int) : S.cmp_Compare_int x y = cmpI x y := by
  unfold S.cmp_Compare_int cmpI S.cmp_isNaN_int
  simp only [letS]
  have e : ∀ z : Int, (z != z) = false := fun z => by simp
  rw [e, e]
  simp only [cond_false]
  by_cases h : x < y
  · simp [h]
  · by_cases h2 : x > y
    · simp [h2]
    · simp [h, h2]
theorem q_cmp32 (x y : Int) : S.cmp_Compare_uint32 x y = cmpI x y := q_cmp x y
theorem q_or (l : List Int) : S.cmp_Or_int l = fnz l := runN_fnz l
def pkey (x : TRoute) : List Int :=
  bif (x.fProto == 1) || (x.fProto == 2) then [x.fAdmin, 0, 0, 0, 0, 0]
  else bif x.fProto == 3 then [x.fClass, x.fMetric, x.fInner, x.fTag, 0, 0]
  else bif x.fProto == 4 then [x.fMetric, x.fClass, x.fTag, 0, 0, 0]
  else bif x.fProto == 5 then [(if 3 < x.fClass then 3 else x.fClass), -x.fPref, (x.fPath.length : Int), x.fMetric, x.fClass, x.fFrom]
  else [0, 0, 0, 0, 0, 0]
theorem pkey_len (x : TRoute) : (pkey x).length = 6 := by
  unfold pkey
  cases (x.fProto == 1) || (x.fProto == 2) <;> cases x.fProto == 3 <;> cases x.fProto == 4 <;> cases x.fProto == 5 <;> rfl
theorem cmpI_neg (x y : Int) : cmpI (-x) (-y) = cmpI y x := by unfold cmpI; split <;> split <;> (try split) <;> (try split) <;> omega
theorem bif_self {b : Bool} (x : Int) (h : (x != 0) = b) : (bif b then x else 0) = x := by
  cases b with
  | true => rfl
  | false => have : x = 0 := by simpa using h
             rw [this]; rfl
theorem q_Prefer {a b : TRoute} (h : a.fProto = b.fProto) : S.route_Prefer a b = cmpL (pkey a) (pkey b) := by
  have e0 : cmpI 0 0 = 0 := cmpI_self 0
  unfold S.route_Prefer S.route_Prefer_k1 pkey S.route_origin
  simp only [letS, q_cmp, q_cmp32, q_or]
  rw [← h]
  cases h1 : a.fProto == 1 with
  | true => simp only [Bool.true_or, cond_true, cmpL, e0]; exact (bif_self _ rfl).symm
  | false =>
    cases h2 : a.fProto == 2 with
    | true => simp only [Bool.false_or, cond_true, cond_false, cmpL, e0]; exact (bif_self _ rfl).symm
    | false =>
      cases h3 : a.fProto == 3 with
      | true => simp only [Bool.false_or, cond_true, cond_false, cmpL, fnz, e0]; rfl
      | false =>
        cases h4 : a.fProto == 4 with
        | true => simp only [Bool.false_or, cond_true, cond_false, cmpL, fnz, e0]; rfl
        | false =>
          cases h5 : a.fProto == 5 with
          | true => simp only [Bool.false_or, cond_true, cond_false, cmpL, fnz, cmpI_neg]
          | false => simp only [Bool.false_or, cond_false, cmpL, e0]; rfl
end Nv
