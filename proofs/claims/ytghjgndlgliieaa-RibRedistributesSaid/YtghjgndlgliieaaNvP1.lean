/- The plain law of RibRedistributes: the program redistributes the documented routes. -/
import Derived.Test.YtghjgndlgliieaaNvX2
import Derived.Test.YtghjgndlgliieaaNvQ2
import Derived.Test.YtghjgndlgliieaaNvLW
import Derived.Test.YtghjgndlgliieaaNvS1
set_option maxRecDepth 100000
namespace Nv
open Go
theorem runN_none {β : Type} {g : Nat → Option β} {e : β} {n : Nat} (h : ∀ j, j < n → g j = none) : runN g e 0 n = e := by
  rcases runN_cases g e n 0 with ⟨j, _, h2, h3, _⟩ | ⟨h1, _⟩
  · rw [h j (by omega)] at h3; cases h3
  · exact h1
theorem same_rfl (x : TRoute) : S.ref15_Same x x = true := by
  unfold S.ref15_Same
  simp only [letS, beq_self_eq_true, bne_self_eq_false, Bool.and_true, Bool.not_true, Bool.or_false, Bool.false_or, cond_false]
  rw [runN_none (g := S.ref15_Same_l1 x x) (fun j _ => by unfold S.ref15_Same_l1; simp)]
  simp only [Sum.elim_inl]
  rw [runN_none (g := S.ref15_Same_l2 x x) (fun j _ => by unfold S.ref15_Same_l2; simp)]
  rfl
theorem sameAll_rfl (l : List TRoute) : S.ref15_SameAll l l = true := by
  unfold S.ref15_SameAll
  simp only [letS, bne_self_eq_false, cond_false]
  rw [runN_none (g := S.ref15_SameAll_l1 l l) (fun j _ => by unfold S.ref15_SameAll_l1; simp only [letS, same_rfl]; rfl)]
  rfl
theorem fz_nil (r : TRouter) (d : TRedist) (x : TRoute) (p m g : Int) : (fz r d (raw x p m g)).1.fPath = [] ∧ (fz r d (raw x p m g)).1.fHops = [] := by
  unfold fz raw
  simp only
  cases p == 3 <;> cases p == 4 <;> cases p == 5 <;> cases d.fType == 1 <;> exact ⟨rfl, rfl⟩
theorem red_nil {r : TRouter} {l : List TRedist} {p : Int} {x y : TRoute} (h : y ∈ redOf r l p x) : y.fPath = [] ∧ y.fHops = [] := by
  unfold redOf opt1 at h
  split at h
  · cases h
  · unfold one put at h
    revert h
    cases x.fDiscard && (x.fProto != 2)
    · cases !(S.rib_values r _ x).2.2
      · simp only [cond_false]
        cases (fz r _ (raw x p _ _)).2
        · intro h; cases h
        · simp only [cond_true]
          intro h
          rw [List.mem_singleton.1 h]
          exact fz_nil _ _ _ _ _ _
      · intro h; cases h
    · intro h; cases h
theorem redAll_len {r : TRouter} {l : List TRedist} {p : Int} : ∀ t : List TRoute, (t.flatMap (redOf r l p)).length ≤ t.length
  | [] => by simp
  | x :: t => by
    rw [List.flatMap_cons, List.length_append, List.length_cons]
    have h1 := redAll_len (r := r) (l := l) (p := p) t
    have h2 := opt1_len r x p (l.find? fun d => d.fFrom == x.fProto)
    have : (redOf r l p x).length ≤ 1 := h2
    omega
theorem plain_RibRedistributes (a0 : TRouter) (a1 : List TRoute) (a2 : Int) (w0 : W_TRouter a0) (w1 : a1.length ≤ maxLen ∧ a1.length * 136 ≤ reachBytes ∧ ∀ y ∈ a1, W_TRoute y) (_w2 : (Lit.int .i64 a2).wf = true) : M.law19_RibRedistributes a0 a1 a2 = some true := by
  have hr := LofW_TRouter w0
  have hL : LL L_TRoute a1 := ⟨w1.1, fun x hx => LofW_TRoute (w1.2.2 x hx)⟩
  unfold M.law19_RibRedistributes
  rw [s_law5_Small a0 hr, Option.bind_some]
  cases hs : S.law5_Small a0 with
  | false => simp [gc]
  | true =>
    simp only [gc, Bool.not_true, Bool.not_false, cond_true]
    rw [s_ref8_CheckRouter a0 hr, Option.bind_some]
    cases hc : (S.ref8_CheckRouter a0 != 0) with
    | true => simp
    | false =>
      simp only [Bool.false_or]
      cases ht : decide ((a1.length : Int) > 30) with
      | true => simp
      | false =>
        simp only [Bool.not_false, cond_true, Bool.false_or]
        rw [s_ref15_Table a1 0 hL, Option.bind_some]
        cases S.ref15_Table a1 0 with
        | false => rfl
        | true =>
          simp only [Bool.not_true, cond_false]
          rw [decide_eq_false_iff_not] at ht
          have hc0 : S.ref8_CheckRouter a0 = 0 := by simpa using hc
          obtain ⟨_, hls, hdv, hpv⟩ := check_parts hc0
          have sm := small_of hs
          have hn := and3 a2
          rw [gdT (by simp; omega)]
          generalize hp : (([3, 4, 5, 5] : List Int).getD (bitD .and .i64 a2 3).toNat default) = p
          rw [s_law19_into a0 p hr, Option.bind_some]
          have hA : Apart (S.law19_into a0 p) := by
            unfold S.law19_into
            cases p == 3 with
            | true => exact redOk_apart (ls_red hls)
            | false =>
              simp only [cond_false]
              cases p == 4 with
              | true => exact redOk_apart (dv_red hdv)
              | false => exact redOk_apart (pv_red ⟨by have := sm.nb; omega, by have := sm.nw; omega, by have := sm.ag; omega, by have := sm.cd; omega, by have := sm.pvr; omega⟩ hpv)
          have hl : (S.law19_into a0 p).length ≤ 8 ∧ LL L_TRedist (S.law19_into a0 p) := by
            unfold S.law19_into
            cases p == 3 with
            | true => exact ⟨sm.lsr, hr.fLS.fRedist⟩
            | false =>
              simp only [cond_false]
              cases p == 4 with
              | true => exact ⟨sm.dvr, hr.fDV.fRedist⟩
              | false => exact ⟨sm.pvr, hr.fPV.fRedist⟩
          generalize S.law19_into a0 p = l at *
          rw [p_eq hr (by omega) hl.2.2 (by omega) hL.2, Option.bind_some, Option.bind_some, r_eq hr (by omega) hl.2.2 (by omega) hL.2 hA, Option.bind_some]
          have hM := maxLen_eq
          have hf : LL L_TRoute (a1.flatMap (redOf a0 l p)) := by
            refine ⟨by have := redAll_len (r := a0) (l := l) (p := p) a1; omega, fun y hy => ?_⟩
            obtain ⟨x, _, h2⟩ := List.mem_flatMap.1 hy
            obtain ⟨h3, h4⟩ := red_nil h2
            exact ⟨by rw [h3]; simp, by rw [h4]; simp⟩
          rw [s_ref15_SameAll _ _ hf hf, sameAll_rfl, Option.bind_some]
          simp only [cond_true]
          rw [sane_some]
          rfl
end Nv
