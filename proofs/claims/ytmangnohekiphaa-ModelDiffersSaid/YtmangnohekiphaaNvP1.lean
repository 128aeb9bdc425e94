/- The plain law of ModelDiffers: a router in which one field was changed is not the same. -/
import Derived.Test.YtmangnohekiphaaNvSm
import Derived.Test.YtmangnohekiphaaNvLW
import Derived.Test.YtmangnohekiphaaNvLibB
import Derived.Test.YtmangnohekiphaaNvLibC
import Derived.Test.YtmangnohekiphaaNvS1
set_option maxRecDepth 100000
namespace Nv
open Go
theorem xor1_ne (a : Int) : a ≠ bitD .xor .i64 a 1 := by
  intro h
  have e : ∀ v : BitVec 64, BitVec.ofInt 64 (IntKind.wrap .i64 (v.toNat : Int)) = v := fun v => by
    apply BitVec.eq_of_toNat_eq
    rw [BitVec.toNat_ofInt, IntKind.wrap_i64]
    have := v.isLt
    omega
  have h1 : BitVec.ofInt 64 a = BitVec.ofInt 64 a ^^^ BitVec.ofInt 64 1 := (congrArg (BitVec.ofInt 64) h).trans (e _)
  have h2 : BitVec.ofInt 64 a ^^^ BitVec.ofInt 64 a = BitVec.ofInt 64 a ^^^ (BitVec.ofInt 64 a ^^^ BitVec.ofInt 64 1) := congrArg (BitVec.ofInt 64 a ^^^ ·) h1
  rw [BitVec.xor_self, ← BitVec.xor_assoc, BitVec.xor_self, BitVec.zero_xor] at h2
  exact absurd h2 (by decide)
theorem small_all {a0 : TRouter} (h : S.law5_Small a0 = true) : a0.fInterfaces.length ≤ 12 ∧ a0.fMaps.length ≤ 12 ∧ a0.fACLs.length ≤ 12 ∧ a0.fLS.fRedist.length ≤ 8 ∧ a0.fPV.fAggregates.length ≤ 12 := by
  unfold S.law5_Small at h
  generalize hg : ((((((((((((((decide ((a0.fInterfaces.length : Int) > 12)) || (decide ((a0.fLists.length : Int) > 12))) || (decide ((a0.fMaps.length : Int) > 12))) || (decide ((a0.fACLs.length : Int) > 12))) || (decide ((a0.fNAT.length : Int) > 12))) || (decide ((a0.fStatics.length : Int) > 20))) || (decide ((a0.fLS.fRanges.length : Int) > 8))) || (decide ((a0.fLS.fRedist.length : Int) > 8))) || (decide ((a0.fDV.fRedist.length : Int) > 8))) || (decide ((a0.fPV.fRedist.length : Int) > 8))) || (decide ((a0.fPV.fNeighbors.length : Int) > 12))) || (decide ((a0.fPV.fNetworks.length : Int) > 12))) || (decide ((a0.fPV.fAggregates.length : Int) > 12))) || (decide ((a0.fPV.fConditions.length : Int) > 12))) = gg at h
  cases gg with
  | true => cases h
  | false =>
    simp only [Bool.or_eq_false_iff, decide_eq_false_iff_not] at hg
    omega
def bld (a0 : TRouter) (p2 : Int × (List TInterface) × (List TRouteMap) × (List TACL) × Bool × (List TRedist) × ByteArray × (List TAggregate)) : TRouter :=
  (⟨a0.fName, p2.1, p2.2.1, a0.fLists, p2.2.2.1, p2.2.2.2.1, a0.fNAT, a0.fStatics, (⟨p2.2.2.2.2.1, a0.fLS.fAdmin, a0.fLS.fRanges, p2.2.2.2.2.2.1⟩ : TLinkState), (⟨a0.fDV.fOn, a0.fDV.fAdmin, a0.fDV.fIn, p2.2.2.2.2.2.2.1, a0.fDV.fRedist⟩ : TDistanceVector), (⟨a0.fPV.fOn, a0.fPV.fExternal, a0.fPV.fInternal, a0.fPV.fNeighbors, a0.fPV.fNetworks, p2.2.2.2.2.2.2.2, a0.fPV.fConditions, a0.fPV.fRedist⟩ : TPathVector)⟩ : TRouter)
theorem k1_ok {a0 : TRouter} {p2 : Int × (List TInterface) × (List TRouteMap) × (List TACL) × Bool × (List TRedist) × ByteArray × (List TAggregate)} (h0 : L_TRouter a0) (h1 : L_TRouter (bld a0 p2)) (hne : a0 ≠ bld a0 p2) : M.law5_ModelDiffers_k1 a0 p2 = some true := by
  show ((M.model_Same a0 (bld a0 p2)).bind fun r3 => (gc (!r3) (M.model_Same (bld a0 p2) a0)).bind fun r4 => (gc ((!r3) && (!r4)) M.law5_sane).bind fun r5 => some (((!r3) && (!r4)) && r5)) = some true
  have e1 : S.model_Same a0 (bld a0 p2) = false := by rw [← Bool.not_eq_true, m_Same]; exact hne
  have e2 : S.model_Same (bld a0 p2) a0 = false := by rw [← Bool.not_eq_true, m_Same]; exact fun h => hne h.symm
  rw [s_model_Same _ _ h0 h1, e1, Option.bind_some]
  simp only [gc, Bool.not_false, cond_true]
  rw [s_model_Same _ _ h1 h0, e2, Option.bind_some]
  simp only [Bool.not_false, Bool.and_self, cond_true]
  rw [sane_some, Option.bind_some]
  rfl
theorem plain_ModelDiffers (a0 : TRouter) (a1 : Int) (w0 : W_TRouter a0) (_w1 : (Lit.int .i64 a1).wf = true) : M.law5_ModelDiffers a0 a1 = some true := by
  have h0 := LofW_TRouter w0
  have hM := maxLen_eq
  have hz : (⟨#[]⟩ : ByteArray).size ≤ maxLen := by rw [hM]; exact Nat.zero_le _
  obtain ⟨q1, q2, q3, q4, q5, q6, q7, q8, q9, q10⟩ := h0
  have h0 : L_TRouter a0 := ⟨q1, q2, q3, q4, q5, q6, q7, q8, q9, q10⟩
  unfold M.law5_ModelDiffers
  rw [s_law5_Small a0 h0, Option.bind_some]
  cases hs : S.law5_Small a0 with
  | false => rfl
  | true =>
    obtain ⟨l1, l2, l3, l4, l5⟩ := small_all hs
    simp only [Bool.not_true, cond_false]
    cases c0 : (a1 == 0) with
    | true =>
      simp only [cond_true]
      refine k1_ok h0 ⟨q1, q2, q3, q4, q5, q6, q7, q8, q9, q10⟩ fun h => ?_
      exact xor1_ne _ (congrArg TRouter.fAS h)
    | false =>
    simp only [cond_false]
    cases c1 : (a1 == 1) with
    | true =>
      simp only [cond_true]
      rw [show decide ((0 + a0.fInterfaces.length) * 112 ≤ 140737488355328) = true from decide_eq_true (by omega), show decide (((0 + a0.fInterfaces.length) + 1) * 112 ≤ 140737488355328) = true from decide_eq_true (by omega), gdT (by simp)]
      refine k1_ok h0 ⟨q1, ⟨by show (a0.fInterfaces ++ [_]).length ≤ _; rw [List.length_append, List.length_singleton]; omega, fun y hy => (List.mem_append.1 hy).elim (q2.2 y) fun h => ?_⟩, q3, q4, q5, q6, q7, q8, q9, q10⟩ fun h => ?_
      · rw [List.mem_singleton] at h; subst h; exact ⟨hz, hz, hz⟩
      · have e := congrArg (fun r => r.fInterfaces.length) h
        simp [bld] at e
    | false =>
    simp only [cond_false]
    cases c2 : (a1 == 2) with
    | true =>
      simp only [cond_true]
      refine k1_ok h0 ⟨q1, q2, q3, q4, q5, q6, q7, q8, q9, q10⟩ fun h => ?_
      have e : a0.fLS.fOn = !a0.fLS.fOn := congrArg (fun r => r.fLS.fOn) h
      cases hb : a0.fLS.fOn <;> rw [hb] at e <;> cases e
    | false =>
    simp only [cond_false]
    cases c3 : (a1 == 3) with
    | true =>
      simp only [cond_true]
      have hr : a0.fDV.fOut.size ≤ reachBytes := by
        have := w0.2.2.2.2.2.2.2.2.2.1.2.2.2.1.2
        exact this
      have hrb : reachBytes = 140737488351232 := rfl
      have hsz : (a0.fDV.fOut ++ (⟨#[120]⟩ : ByteArray)).size = a0.fDV.fOut.size + 1 := by rw [ByteArray.size_append]; rfl
      rw [show decide (a0.fDV.fOut.size + (⟨#[120]⟩ : ByteArray).size ≤ 9223372036854775807) = true from decide_eq_true (by show a0.fDV.fOut.size + 1 ≤ _; omega), gdT (by simp)]
      refine k1_ok h0 ⟨q1, q2, q3, q4, q5, q6, q7, q8, ⟨q9.1, by show (a0.fDV.fOut ++ (⟨#[120]⟩ : ByteArray)).size ≤ _; rw [hsz]; omega, q9.2.2⟩, q10⟩ fun h => ?_
      have e : a0.fDV.fOut.size = (a0.fDV.fOut ++ (⟨#[120]⟩ : ByteArray)).size := congrArg (fun r => r.fDV.fOut.size) h
      omega
    | false =>
    simp only [cond_false]
    cases c4 : (a1 == 4) with
    | true =>
      simp only [cond_true]
      rw [show decide ((0 + a0.fPV.fAggregates.length) * 24 ≤ 140737488355328) = true from decide_eq_true (by omega), show decide (((0 + a0.fPV.fAggregates.length) + 1) * 24 ≤ 140737488355328) = true from decide_eq_true (by omega), gdT (by simp)]
      refine k1_ok h0 ⟨q1, q2, q3, q4, q5, q6, q7, q8, q9, ⟨q10.1, q10.2.1, by show (a0.fPV.fAggregates ++ [_]).length ≤ _; rw [List.length_append, List.length_singleton]; omega, q10.2.2.2⟩⟩ fun h => ?_
      have e := congrArg (fun r => r.fPV.fAggregates.length) h
      simp [bld] at e
    | false =>
    simp only [cond_false]
    cases c5 : (a1 == 5) with
    | true =>
      simp only [cond_true]
      rw [show decide ((0 + a0.fACLs.length) * 40 ≤ 140737488355328) = true from decide_eq_true (by omega), show decide (((0 + a0.fACLs.length) + 1) * 40 ≤ 140737488355328) = true from decide_eq_true (by omega), gdT (by simp)]
      refine k1_ok h0 ⟨q1, q2, q3, q4, ⟨by show (a0.fACLs ++ [_]).length ≤ _; rw [List.length_append, List.length_singleton]; omega, fun y hy => (List.mem_append.1 hy).elim (q5.2 y) fun h => ?_⟩, q6, q7, q8, q9, q10⟩ fun h => ?_
      · rw [List.mem_singleton] at h; subst h; exact ⟨hz, Nat.zero_le _⟩
      · have e := congrArg (fun r => r.fACLs.length) h
        simp [bld] at e
    | false =>
    simp only [cond_false]
    cases c6 : (a1 == 6) with
    | true =>
      simp only [cond_true]
      rw [show decide ((1 + a0.fMaps.length) * 40 ≤ 140737488355328) = true from decide_eq_true (by omega), gdT (by simp)]
      refine k1_ok h0 ⟨q1, q2, q3, ⟨by show (_ :: a0.fMaps).length ≤ _; rw [List.length_cons]; omega, fun y hy => (List.mem_cons.1 hy).elim (fun h => ?_) (q4.2 y)⟩, q5, q6, q7, q8, q9, q10⟩ fun h => ?_
      · subst h; exact ⟨hz, Nat.zero_le _, fun y hy => by cases hy⟩
      · have e := congrArg (fun r => r.fMaps.length) h
        simp [bld] at e
    | false =>
    simp only [cond_false]
    cases c7 : (a1 == 7) with
    | true =>
      simp only [cond_true]
      rw [show decide ((1 + a0.fLS.fRedist.length) * 48 ≤ 140737488355328) = true from decide_eq_true (by omega), gdT (by simp)]
      refine k1_ok h0 ⟨q1, q2, q3, q4, q5, q6, q7, ⟨q8.1, by show (_ :: a0.fLS.fRedist).length ≤ _; rw [List.length_cons]; omega, fun y hy => (List.mem_cons.1 hy).elim (fun h => ?_) (q8.2.2 y)⟩, q9, q10⟩ fun h => ?_
      · subst h; exact hz
      · have e := congrArg (fun r => r.fLS.fRedist.length) h
        simp [bld] at e
    | false => rfl
end Nv
