/- Operations look the same where more objects stand behind. -/
import Derived.Test.YtmangnohekiphaaNvDraw3
namespace Nv
open Go Go.RowKit

theorem get_more {H : List Ob} (X : List Ob) {id : Nat} {o : Ob} (h : H[id]? = some o) : (H ++ X)[id]? = some o := by
  rw [List.getElem?_append_left (List.getElem?_eq_some_iff.1 h).1]; exact h
theorem cellsAt_more {H : List Ob} (X : List Ob) {d : D} {cs : List D} (h : cellsAt H d = some cs) : cellsAt (H ++ X) d = some cs := by
  unfold cellsAt at h ⊢
  cases d <;> simp only at h ⊢ <;> try exact h
  · split at h <;> try cases h
    rename_i ho
    rw [get_more X ho]
  · split at h <;> try cases h
    rename_i ho
    rw [get_more X ho]
theorem idxD_more {P : Program} {H : List Ob} (X : List Ob) {t : TypeId} {x i : D} {r : D × List Bool} (h : idxD P H t x i = some r) : idxD P (H ++ X) t x i = some r := by
  unfold idxD at h ⊢
  split at h <;> try exact h
  split at h <;> try exact h
  split at h <;> try exact h
  split at h <;> try cases h
  rename_i ho
  rw [get_more X ho]
  exact h
theorem sliceD_more {P : Program} {H : List Ob} (X : List Ob) {t : TypeId} {x : D} {lo hi : Option D} {r : D × List Bool} (h : sliceD P H t x lo hi = some r) : sliceD P (H ++ X) t x lo hi = some r := by
  unfold sliceD at h ⊢
  split at h <;> try exact h
  split at h <;> try cases h
  rename_i ho hs hl
  rw [get_more X ho, hs, hl]
  exact h
theorem pureOp_more {P : Program} {H : List Ob} (X : List Ob) {ρ : Operand → D} {t : TypeId} {op : Op} {r : D × List Bool} (h : pureOp P H ρ t op = some r) : pureOp P (H ++ X) ρ t op = some r := by
  unfold pureOp at h ⊢
  split at h <;> try exact h
  · split at h <;> try cases h
    rename_i hc
    rw [cellsAt_more X hc]
    exact h
  · exact idxD_more X h
  · exact sliceD_more X h
theorem normC_more {H : List Ob} (X : List Ob) {d : D} (h : persB (normC H d) = true) : normC (H ++ X) d = normC H d := by
  cases d <;> simp only [normC] at h ⊢
  · split at h
    · rename_i ho; rw [get_more X ho]
    · simp [persB] at h
  · split at h
    · rename_i ho; rw [get_more X ho]
    · simp [persB] at h
theorem normA_more {P : Program} {H : List Ob} (X : List Ob) {t : TypeId} {d : D} (h : pArg (normA P H t d) = true) : normA P (H ++ X) t d = normA P H t d := by
  unfold normA at h ⊢
  generalize adj P t d = e at *
  cases e with
  | agg cs =>
    simp only [pArg, List.all_eq_true, List.mem_map, forall_exists_index, and_imp, forall_apply_eq_imp_iff₂] at h
    simp only [D.agg.injEq, List.map_inj_left]
    exact fun x hx => normC_more X (h x hx)
  | fn f cap =>
    simp only [pArg, List.all_eq_true, List.mem_map, forall_exists_index, and_imp, forall_apply_eq_imp_iff₂] at h
    simp only [D.fn.injEq, List.map_inj_left, true_and]
    exact fun x hx => normC_more X (h x hx)
  | _ => exact normC_more X (by rw [← pArg_normC _ _ (by simp) (by simp)]; exact h)
theorem argsD_more {P : Program} {H : List Ob} (X : List Ob) : ∀ (ts : List TypeId) (ds : List D), (argsD P H ts ds).all pArg = true → argsD P (H ++ X) ts ds = argsD P H ts ds
  | [], _, _ => by unfold argsD; rfl
  | _ :: _, [], _ => by unfold argsD; rfl
  | t :: ts, d :: ds, h => by
    simp only [argsD, List.all_cons, Bool.and_eq_true] at h ⊢
    rw [normA_more X h.1, argsD_more X ts ds h.2]
theorem opD_more {P : Program} {H : List Ob} (X : List Ob) {ops : Array Oper} {env : List (Nat × D)} {al : List (Nat × Bool)} {orc : List Res} {g : Bool} {o : Oper} {r : Res × List Bool × List Req × List Res}
    (h : opD P H ops env al orc g o = some r) : opD P (H ++ X) ops env al orc g o = some r := by
  unfold opD at h ⊢
  split at h
  · exact h
  · split at h <;> try cases h
    rename_i k cap r0 orc' hf
    generalize hc : (callable P k && (argsD P H _ _).all pArg && _ && _ && _ && _) = b at h
    cases b with
    | false => cases h
    | true =>
      simp only [Bool.and_eq_true] at hc
      have ha := hc.1.1.1.1.2
      rw [argsD_more X _ _ ha]
      simp only [Bool.and_eq_true, hc, cond_true, Bool.and_self] at h ⊢
      exact h
  · obtain ⟨x, h1, h2⟩ := Option.map_eq_some_iff.1 h
    rw [pureOp_more X h1]
    exact congrArg some h2
end Nv
