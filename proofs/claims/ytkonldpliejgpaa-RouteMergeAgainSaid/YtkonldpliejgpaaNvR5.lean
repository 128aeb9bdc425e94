/- The reference's order of routes is the order by the documented ranks. No condition. -/
import Derived.Test.YtkonldpliejgpaaNvR1
namespace Nv
open Go
theorem cond_none {α : Type} {b : Bool} {x : α} (h : (bif b then some x else none) = none) : b = false := by cases b <;> simp_all
theorem cond_some {α : Type} {b : Bool} {x y : α} (h : (bif b then some x else none) = some y) : b = true ∧ x = y := by cases b <;> simp_all
def rkl (x : Arr7Int) : List Int := [x.a0, x.a1, x.a2, x.a3, x.a4, x.a5, x.a6]
theorem cmpL_step (x y : Int) (l m : List Int) : cmpL (x :: l) (y :: m) = bif decide (x < y) then -1 else bif decide (x > y) then 1 else cmpL l m := by
  have e : cmpL (x :: l) (y :: m) = bif cmpI x y != 0 then cmpI x y else cmpL l m := by rw [cmpL]
  rw [e]
  unfold cmpI
  by_cases h : x < y
  · simp [h]
  · by_cases h2 : x > y
    · simp [h, h2]
    · simp [h, h2]
theorem q_ref (a b : TRoute) : S.ref15_Prefer a b = cmpL (rkl (S.ref15_rank a)) (rkl (S.ref15_rank b)) := by
  unfold S.ref15_Prefer rkl
  simp only [letS, cmpL_step]
  rfl
theorem cmpI_sub {c x y : Int} : cmpI (c - x) (c - y) = cmpI (-x) (-y) := by unfold cmpI; split <;> split <;> (try split) <;> (try split) <;> omega
theorem cmp_rank {a b : TRoute} (hp : a.fProto = b.fProto) (ha : a.fProto = 5 → wr .i64 (1000000 - a.fPref) = 1000000 - a.fPref) (hb : a.fProto = 5 → wr .i64 (1000000 - b.fPref) = 1000000 - b.fPref)
    (ha2 : wr .i64 a.fFrom = a.fFrom) (hb2 : wr .i64 b.fFrom = b.fFrom) (hr : a.fProto = 1 ∨ a.fProto = 2 ∨ a.fProto = 3 ∨ a.fProto = 4 ∨ a.fProto = 5) :
    cmpL (rkl (S.ref15_rank a)) (rkl (S.ref15_rank b)) = cmpL (pkey a) (pkey b) := by
  have e0 : cmpI 0 0 = 0 := cmpI_self 0
  unfold S.ref15_rank pkey
  rw [← hp]
  rcases hr with h | h | h | h | h
  · rw [h]; simp [rkl, cmpL, e0]
  · rw [h]; simp [rkl, cmpL, e0]
  · rw [h]; simp [rkl, cmpL, e0]
  · rw [h]; simp [rkl, cmpL, e0]
  · rw [ha h, hb h, ha2, hb2, h]; simp [rkl, cmpL, e0, cmpI_sub]
theorem valid_proto {x : TRoute} (h : S.ref15_Valid x = true) : x.fProto = 1 ∨ x.fProto = 2 ∨ x.fProto = 3 ∨ x.fProto = 4 ∨ x.fProto = 5 := by
  unfold S.ref15_Valid at h
  simp only [letS] at h
  generalize (S.ref4_Valid x.fPrefix) = q1 at h
  generalize (((!q1) || !(bif !(!q1) then S.ref15_within x.fTag 0 65535 else default)) || (decide ((x.fPath.length : Int) > 64))) = q2 at h
  cases q2 with
  | true => simp at h
  | false =>
    simp only [cond_false] at h
    cases hy : runN (S.ref15_Valid_l1 x) (.inl ()) 0 x.fPath.length with
    | inr y =>
      rw [hy] at h
      simp only [Sum.elim_inr] at h
      subst h
      rcases runN_cases (S.ref15_Valid_l1 x) (.inl ()) x.fPath.length 0 with ⟨j, _, _, h1, _⟩ | ⟨h1, _⟩
      · rw [hy] at h1
        unfold S.ref15_Valid_l1 at h1
        simp only [letS] at h1
        have := (cond_some h1).2
        simp at this
      · rw [hy] at h1; cases h1
    | inl u =>
      rw [hy] at h
      simp only [Sum.elim_inl] at h
      by_cases c1 : x.fProto = 1
      · exact .inl c1
      by_cases c2 : x.fProto = 2
      · exact .inr (.inl c2)
      by_cases c3 : x.fProto = 3
      · exact .inr (.inr (.inl c3))
      by_cases c4 : x.fProto = 4
      · exact .inr (.inr (.inr (.inl c4)))
      by_cases c5 : x.fProto = 5
      · exact .inr (.inr (.inr (.inr c5)))
      exfalso
      have b1 : (x.fProto == 1) = false := by simpa using c1
      have b2 : (x.fProto == 2) = false := by simpa using c2
      have b3 : (x.fProto == 3) = false := by simpa using c3
      have b4 : (x.fProto == 4) = false := by simpa using c4
      have b5 : (x.fProto == 5) = false := by simpa using c5
      rw [b1, b2, b3, b4, b5] at h
      simp at h
theorem valid_pref {x : TRoute} (h : S.ref15_Valid x = true) (h5 : x.fProto = 5) : 0 ≤ x.fPref ∧ x.fPref ≤ 1000000 := by
  unfold S.ref15_Valid at h
  simp only [letS] at h
  generalize (S.ref4_Valid x.fPrefix) = q1 at h
  generalize (((!q1) || !(bif !(!q1) then S.ref15_within x.fTag 0 65535 else default)) || (decide ((x.fPath.length : Int) > 64))) = q2 at h
  cases q2 with
  | true => simp at h
  | false =>
    simp only [cond_false] at h
    cases hy : runN (S.ref15_Valid_l1 x) (.inl ()) 0 x.fPath.length with
    | inr y =>
      rw [hy] at h
      simp only [Sum.elim_inr] at h
      subst h
      rcases runN_cases (S.ref15_Valid_l1 x) (.inl ()) x.fPath.length 0 with ⟨j, _, _, h1, _⟩ | ⟨h1, _⟩
      · rw [hy] at h1
        unfold S.ref15_Valid_l1 at h1
        simp only [letS] at h1
        have := (cond_some h1).2
        simp at this
      · rw [hy] at h1; cases h1
    | inl u =>
      rw [hy] at h
      simp only [Sum.elim_inl] at h
      rw [h5] at h
      have h : S.ref15_validPath x = true := h
      unfold S.ref15_validPath S.ref15_within at h
      simp only [letS] at h
      by_cases c : 0 ≤ x.fPref ∧ x.fPref ≤ 1000000
      · exact c
      · exfalso
        have e : (decide (0 ≤ x.fPref) && decide (x.fPref ≤ 1000000)) = false := by
          simp only [Bool.and_eq_false_iff, decide_eq_false_iff_not]; omega
        rw [e] at h
        generalize (decide (1 ≤ x.fAdmin) && decide (x.fAdmin ≤ 255)) = q3 at h
        generalize (decide (0 ≤ x.fMetric) && decide (x.fMetric ≤ 16777215)) = q4 at h
        cases q3 <;> cases q4 <;> simp at h
theorem u32_in {x : Int} (h : (Lit.int .u32 x).wf = true) : -9223372036854775808 ≤ x ∧ x ≤ 9223372036854775807 := by
  simp only [Lit.wf, Bool.and_eq_true, decide_eq_true_eq] at h
  have e1 : IntKind.min .u32 = 0 := by decide
  have e2 : IntKind.max .u32 = 4294967295 := by decide
  rw [e1, e2] at h
  omega
end Nv
