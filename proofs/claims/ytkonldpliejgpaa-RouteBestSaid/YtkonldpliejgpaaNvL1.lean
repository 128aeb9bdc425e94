/- The law RouteBest of the given program: for every input the call returns true, and each argument reads behind the call as it read before. No condition. -/
import Derived.Test.YtkonldpliejgpaaRows
import Derived.Test.YtkonldpliejgpaaNvM1
import Derived.Test.YtkonldpliejgpaaNvW1
import Derived.Test.YtkonldpliejgpaaNvP1
import Derived.SizedLaws
import Derived.WalkKit
import Derived.ProofKit
import Derived.OpenShut
import Derived.ShutString
import Derived.ChangeOld
import Derived.Below
namespace Go.Proofs.Ytkonldpliejgpaa.routeBest
open Go.ChangeShapes Go.WideShapes Go.ChangeAt Go.RowKit Nv
open Go.ChangeMaps (open_string shut_string)

theorem own : ownKnob Try.prog.godebug = none := by kernel_rfl
theorem laidOut : laidOutB Try.prog = true := by kernel_rfl

set_option maxRecDepth 100000 in
theorem lifted (os : Os) (started : os.Started) (H : Type) (enc : TypeId × Value → H) :
    ReturnsInHanded {} Try.checked os 6 .any (Rows.routeBestSpec.pre6 enc Try.prog Try.f6 Rows.routeBestRow.domain false) (Rows.routeBestSpec.post enc Try.prog Try.f6 false true false false) := by
  refine returnsInHanded_of_change_sized (C := Try.checked) own started (by kernel_rfl) Try.func6
    (ChangeSpec.witness6 (enc := enc) (C := Try.checked) false ⟨#[], #[.slice none 0 0], []⟩ 8 (by kernel_rfl) (by kernel_rfl) (by kernel_rfl) (by kernel_rfl)) ?_
  intro W base args ds gs before hval0 hW hcnd hwt0 _
  have hval : ∀ (j : Nat) t v, Try.f6.params[j]? = some t → args[j]? = some v → Value.okWide Try.prog W .any base t v := hval0
  have hW' := hW
  obtain ⟨p, q, hA0, hV, rfl, hfz, hnd⟩ := hW
  have hA : DataW.TrodAll enc Try.prog W 0 (fun _ => true) true Try.f6.params.toList args.toList ds p := hA0
  have hwt : ∀ (j : Nat) t d, Try.f6.params.toList[j]? = some t → ds[j]? = some d → Szd Try.prog t d := fun j t d h1 h2 n hn => of_decide_eq_true (List.all_eq_true.1 hwt0 n (DataW.weights_mem_each (j := j) (List.getElem?_append_left (List.getElem?_eq_some_iff.1 h1).1 ▸ h1) (List.getElem?_append_left (List.getElem?_eq_some_iff.1 h2).1 ▸ h2) n hn))
  rw [Try.params6] at hA hval hwt
  obtain ⟨v0, vs0, d0, ds0, p0, q0, hargs, rfl, rfl, h0, r0⟩ := trodAll_cons hA
  obtain ⟨rfl, rfl, rfl⟩ := trodAll_nil r0
  obtain rfl : args = #[v0] := by cases args; simp_all
  obtain ⟨rfl, rfl⟩ := trodVars_none hV
  have k0 := h0
  have lt0 : ∀ x ∈ p0, x.block < W.heap.size := by obtain ⟨m, hm⟩ := k0; exact DataW.trod_lt m _ _ _ hm
  obtain ⟨a0, w0, av0⟩ := arg_one (dd := fun x => sL 14 c_TRoute x) (opens_slice (wd := 14) (by' := 136) Try.underlying30 (by kernel_rfl) (by kernel_rfl) (by decide) (open_t28 enc W)) (fun _ => rfl) h0 (hwt 0 _ _ rfl rfl) (by obtain ⟨_, _, _, hx⟩ := okWide_slice Try.underlying30 (hval 0 30 v0 rfl rfl); intro cs e; rw [hx] at e; cases e)
  clear hA0 hval0
  refine (law_calls (law14_RouteBest_ok a0 true (plain_RouteBest a0 w0)) (gt_none (by kernel_rfl)) (vs_av_cons av0 vs_av_nil)).mono fun e W' ⟨he, bel⟩ => ?_
  subst he
  exact ⟨_, rfl, _, _, _, [], _, [], hW', trodAll_mk1 (shut_bool Try.underlying4 _), (trodAll_cons_mk (Below.trod laidOut (by kernel_rfl) (of_decide_eq_true (by kernel_rfl)) k0 bel lt0) trodAll_mk0), rfl, bel.frame _, fun h => by cases h⟩

theorem over : Rows.routeBestRow.holds Try.pinned (OpenSpec.ofChange Rows.routeBestSpec) :=
  OpenClaim.holds_of_wide 6 Try.f6 rfl rfl rfl rfl rfl rfl rfl ⟨rfl, rfl, rfl, rfl, rfl⟩ rfl rfl rfl rfl rfl (by kernel_rfl) Try.func6 (by kernel_rfl)
    (of_decide_eq_true (by kernel_rfl)) (by unfold Func.isWrapper; first | (rw [if_pos (by decide +kernel)]; kernel_rfl) | (rw [if_neg (by decide +kernel)]; exact ⟨rfl, rfl⟩))
    (fun os started H enc _ => lifted os started H enc)

/-- THE STATEMENT -/
theorem proved : Rows.RouteBestSaid := over
#print axioms proved
end Go.Proofs.Ytkonldpliejgpaa.routeBest
