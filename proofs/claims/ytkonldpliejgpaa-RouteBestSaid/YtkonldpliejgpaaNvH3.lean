/- Hops put into an ascending list; hops sorted. No condition. -/
import Derived.Test.YtkonldpliejgpaaNvH2
import Derived.Test.YtkonldpliejgpaaNvT1
import Derived.Test.YtkonldpliejgpaaNvR1
import Derived.Test.YtkonldpliejgpaaNvLibC
namespace Nv
open Go Go.Sort Go.Proofs
theorem less_iff (x y : THop) : S.ref15_lessHop x y = true ↔ hlt x y := by
  unfold S.ref15_lessHop hlt
  simp [Bool.or_eq_true, Bool.and_eq_true, decide_eq_true_eq, beq_iff_eq]
theorem hget_mem {l : List THop} {i : Nat} (hi : i < l.length) : l.getD i default ∈ l := by rw [List.getD_eq_getElem?_getD, List.getElem?_eq_getElem hi]; exact List.getElem_mem hi
noncomputable def hcf (x y : THop) : Int := S.route_compareHops x y
theorem hcf_lt (x y : THop) : ltOf hcf x y = decide (hlt x y) := by
  unfold ltOf hcf S.route_compareHops
  simp only [letS, q_cmp, q_cmp32, q_or]
  rw [decide_eq_decide]
  unfold fnz fnz fnz cmpI hlt
  have b1 : ((-1 : Int) != 0) = true := by decide
  have b2 : ((1 : Int) != 0) = true := by decide
  have b3 : ((0 : Int) != 0) = false := by decide
  split <;> split <;> (try split) <;> (try split) <;> simp only [b1, b2, b3, cond_true, cond_false] <;> omega
theorem hcf_swo : SWO (ltOf hcf) where
  irrefl x := by rw [hcf_lt, decide_eq_false_iff_not]; exact hlt_irr x
  trans x y z h1 h2 := by rw [hcf_lt, decide_eq_true_eq] at *; exact hlt_trans h1 h2
  ntrans x y z h1 h2 := by rw [hcf_lt, decide_eq_false_iff_not] at *; unfold hlt at *; omega
/-- The hops of a list, ascending, each once. -/
noncomputable def hset (l : List THop) : List THop := ddp (sortP hcf l)
theorem hset_ok (l : List THop) : HAsc (hset l) ∧ ∀ x, x ∈ hset l ↔ x ∈ l := by
  obtain ⟨_, h2, h3⟩ := sortP_ok hcf_swo l
  exact ⟨ddp_asc (h3.imp fun {a b} h => by rw [hcf_lt, decide_eq_false_iff_not] at h; exact h), fun x => by unfold hset; rw [ddp_mem]; exact ⟨fun h => h2.subset h, fun h => h2.symm.subset h⟩⟩
theorem hset_uniq {l r : List THop} (h : HAsc r) (k : ∀ x, x ∈ r ↔ x ∈ l) : r = hset l := hasc_ext h (hset_ok l).1 fun x => (k x).trans ((hset_ok l).2 x).symm

theorem so_route_compareHops : SortOK M.route_compareHops := ⟨hcf, s_route_compareHops, hcf_swo⟩
end Nv
