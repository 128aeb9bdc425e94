/- The program's check of a network is the reference's. -/
import Derived.Test.YtmangnohekiphaaGreatNvQ1
import Derived.Test.YtmangnohekiphaaGreatNvQ2
namespace Nv
open Go

/-- Two routers share an address. -/
noncomputable def share (q r : TRouter) : Bool := anyN (fun j => ((r.fInterfaces.getD j default).fLen != 0) && decide (S.ref8_Address q (r.fInterfaces.getD j default).fAddr ≥ 0)) r.fInterfaces.length
theorem q_shareAddress (q r : TRouter) : S.model_shareAddress q r = share q r := by
  have h := idx_ge (fun j => S.model_shareAddress_1 (r.fInterfaces.getD j default) q) r.fInterfaces.length
  refine Eq.trans ?_ (h.trans (anyN_congr fun j _ => ?_))
  · rfl
  · unfold S.model_shareAddress_1
    simp only [letS]
    rw [q_Address]
    cases (r.fInterfaces.getD j default).fLen != 0 <;> rfl
theorem q_Check_l2 (a : TNetwork) (i : Nat) : runN (S.model_Check_l2 a i) (.inl ()) 0 i = bif anyN (fun k => strEq (a.fRouters.getD k default).fName (a.fRouters.getD i default).fName || share (a.fRouters.getD k default) (a.fRouters.getD i default)) i then .inr 4 else .inl () := by
  rw [← runN_any (β := Unit ⊕ Int)]
  refine runN_congr0 fun k hk => ?_
  unfold S.model_Check_l2
  simp only [letS, take_getD _ hk, q_shareAddress]
  cases strEq (a.fRouters.getD k default).fName (a.fRouters.getD i default).fName <;> rfl
theorem q_Check (a : TNetwork) (hs : ∀ i, i < a.fRouters.length → SmallR (a.fRouters.getD i default)) : S.model_Check a = S.ref8_Check a := by
  unfold S.model_Check S.ref8_Check
  rw [runN_congr0 (g' := S.ref8_Check_l1 a)]
  intro i hi
  have s := hs i hi
  unfold S.model_Check_l1 S.ref8_Check_l1
  rw [q_Check_l2, q_CheckRouter _ ⟨by have := s.nb; omega, by have := s.nw; omega, by have := s.ag; omega, by have := s.cd; omega, by have := s.pvr; omega⟩]
  have h2 : runN (S.ref8_Check_l2 a i) (.inl ()) 0 i = _ := runN_any (β := Unit ⊕ Int) (fun k => strEq (a.fRouters.getD k default).fName (a.fRouters.getD i default).fName) (.inr 4) (.inl ()) i
  have h4 (j : Nat) : runN (S.ref8_Check_l4 a i j) (.inl ()) 0 i = bif anyN (fun k => ((((a.fRouters.getD i default).fInterfaces.getD j default).fLen != 0) && decide (S.ref8_Address (a.fRouters.getD k default) ((a.fRouters.getD i default).fInterfaces.getD j default).fAddr ≥ 0))) i then .inr 4 else .inl () := by
    rw [← runN_any (β := Unit ⊕ Int)]
    refine runN_congr0 fun k hk => ?_
    unfold S.ref8_Check_l4
    simp only [letS]
    cases ((a.fRouters.getD i default).fInterfaces.getD j default).fLen != 0 <;> rfl
  have h3 : runN (S.ref8_Check_l3 a i) (.inl ()) 0 ((a.fRouters.getD i default).fInterfaces).length = bif anyN (fun j => anyN (fun k => ((((a.fRouters.getD i default).fInterfaces.getD j default).fLen != 0) && decide (S.ref8_Address (a.fRouters.getD k default) ((a.fRouters.getD i default).fInterfaces.getD j default).fAddr ≥ 0))) i) ((a.fRouters.getD i default).fInterfaces).length then .inr 4 else .inl () := by
    rw [← runN_any (β := Unit ⊕ Int)]
    refine runN_congr0 fun j hj => ?_
    unfold S.ref8_Check_l3
    rw [h4]
    simp only [letS]
    cases anyN _ i <;> rfl
  rw [h2, h3]
  have he : anyN (fun k => strEq (a.fRouters.getD k default).fName (a.fRouters.getD i default).fName || share (a.fRouters.getD k default) (a.fRouters.getD i default)) i =
      (anyN (fun k => strEq (a.fRouters.getD k default).fName (a.fRouters.getD i default).fName) i || anyN (fun j => anyN (fun k => ((((a.fRouters.getD i default).fInterfaces.getD j default).fLen != 0) && decide (S.ref8_Address (a.fRouters.getD k default) ((a.fRouters.getD i default).fInterfaces.getD j default).fAddr ≥ 0))) i) ((a.fRouters.getD i default).fInterfaces).length) := by
    rw [Bool.eq_iff_iff, Bool.or_eq_true, anyN_true, anyN_true, anyN_true]
    constructor
    · rintro ⟨k, hk, h⟩
      rcases Bool.or_eq_true _ _ ▸ h with h | h
      · exact .inl ⟨k, hk, h⟩
      · obtain ⟨j, hj, h⟩ := anyN_true.1 h
        exact .inr ⟨j, hj, anyN_true.2 ⟨k, hk, h⟩⟩
    · rintro (⟨k, hk, h⟩ | ⟨j, hj, h⟩)
      · exact ⟨k, hk, by rw [h]; rfl⟩
      · obtain ⟨k, hk, h⟩ := anyN_true.1 h
        refine ⟨k, hk, ?_⟩
        have : share (a.fRouters.getD k default) (a.fRouters.getD i default) = true := anyN_true.2 ⟨j, hj, h⟩
        rw [this, Bool.or_true]
  rw [he]
  simp only [letS]
  cases S.ref8_CheckRouter (a.fRouters.getD i default) != 0 with
  | true => rfl
  | false =>
    cases anyN (fun k => strEq (a.fRouters.getD k default).fName (a.fRouters.getD i default).fName) i with
    | true => rfl
    | false =>
      generalize anyN _ ((a.fRouters.getD i default).fInterfaces).length = b
      cases b <;> rfl
end Nv
