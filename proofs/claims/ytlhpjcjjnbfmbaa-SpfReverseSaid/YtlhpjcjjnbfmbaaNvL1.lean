/- The law SpfReverse of the given program: for every input the call returns true, and each argument reads behind the call as it read before. No condition. -/
import Derived.Test.YtlhpjcjjnbfmbaaRows
import Derived.Test.YtlhpjcjjnbfmbaaNvM1
import Derived.Test.YtlhpjcjjnbfmbaaNvW1
import Derived.Test.YtlhpjcjjnbfmbaaNvP1
import Derived.SizedLaws
import Derived.WalkKit
import Derived.ProofKit
import Derived.OpenShut
import Derived.ShutString
import Derived.ChangeOld
import Derived.Below
namespace Go.Proofs.Ytlhpjcjjnbfmbaa.spfReverse
open Go.ChangeShapes Go.WideShapes Go.ChangeAt Go.RowKit Nv
open Go.ChangeMaps (open_string shut_string)
theorem own : ownKnob Try.prog.godebug = none := by kernel_rfl
theorem laidOut : laidOutB Try.prog = true := by kernel_rfl
set_option maxRecDepth 100000 in
theorem lifted (os : Os) (started : os.Started) (H : Type) (enc : TypeId × Value → H) :
    ReturnsInHanded {} Try.checked os 6 .any (Rows.spfReverseSpec.pre6 enc Try.prog Try.f6 Rows.spfReverseRow.domain false) (Rows.spfReverseSpec.post enc Try.prog Try.f6 false true false false) := by
  refine returnsInHanded_of_change_sized (C := Try.checked) own started (by kernel_rfl) Try.func6
    (ChangeSpec.witness6 (enc := enc) (C := Try.checked) false ⟨#[], #[.int .i64 0, .slice none 0 0, .int .i64 0, .int .i64 0], []⟩ 8 (by kernel_rfl) (by kernel_rfl) (by kernel_rfl) (by kernel_rfl)) ?_
  intro W base args ds gs before hval0 hW hcnd hwt0 _
  have hval : ∀ (j : Nat) t v, Try.f6.params[j]? = some t → args[j]? = some v → Value.okWide Try.prog W .any base t v := hval0
  have hW' := hW
  obtain ⟨p, q, hA0, hV, rfl, hfz, hnd⟩ := hW
  have hA : DataW.TrodAll enc Try.prog W 0 (fun _ => true) true Try.f6.params.toList args.toList ds p := hA0
  have hwt : ∀ (j : Nat) t d, Try.f6.params.toList[j]? = some t → ds[j]? = some d → Szd Try.prog t d := fun j t d h1 h2 n hn => of_decide_eq_true (List.all_eq_true.1 hwt0 n (DataW.weights_mem_each (j := j) (List.getElem?_append_left (List.getElem?_eq_some_iff.1 h1).1 ▸ h1) (List.getElem?_append_left (List.getElem?_eq_some_iff.1 h2).1 ▸ h2) n hn))
  rw [Try.params6] at hA hval hwt
  obtain ⟨v0, vs0, d0, ds0, p0, q0, hargs, rfl, rfl, h0, r0⟩ := trodAll_cons hA
  obtain ⟨v1, vs1, d1, ds1, p1, q1, rfl, rfl, rfl, h1, r1⟩ := trodAll_cons r0
  obtain ⟨v2, vs2, d2, ds2, p2, q2, rfl, rfl, rfl, h2, r2⟩ := trodAll_cons r1
  obtain ⟨v3, vs3, d3, ds3, p3, q3, rfl, rfl, rfl, h3, r3⟩ := trodAll_cons r2
  obtain ⟨rfl, rfl, rfl⟩ := trodAll_nil r3
  obtain rfl : args = #[v0, v1, v2, v3] := by cases args; simp_all
  obtain ⟨rfl, rfl⟩ := trodVars_none hV
  have k0 := h0
  have lt0 : ∀ x ∈ p0, x.block < W.heap.size := by obtain ⟨m, hm⟩ := k0; exact DataW.trod_lt m _ _ _ hm
  obtain ⟨a0, w0, av0⟩ := arg_one (dd := fun x => .int .i64 x) (opens_int Try.underlying3) (fun _ => rfl) h0 (hwt 0 _ _ rfl rfl) (by obtain ⟨_, hx, _⟩ := open_int Try.underlying3 (hval 0 3 v0 rfl rfl) h0; intro cs e; rw [hx] at e; cases e)
  have k1 := h1
  have lt1 : ∀ x ∈ p1, x.block < W.heap.size := by obtain ⟨m, hm⟩ := k1; exact DataW.trod_lt m _ _ _ hm
  obtain ⟨a1, w1, av1⟩ := arg_one (dd := fun x => sL 5 c_TEdge x) (opens_slice (wd := 5) (by' := 40) Try.underlying22 (by kernel_rfl) (by kernel_rfl) (by decide) (open_t39 enc W)) (fun _ => rfl) h1 (hwt 1 _ _ rfl rfl) (by obtain ⟨_, _, _, hx⟩ := okWide_slice Try.underlying22 (hval 1 22 v1 rfl rfl); intro cs e; rw [hx] at e; cases e)
  have k2 := h2
  have lt2 : ∀ x ∈ p2, x.block < W.heap.size := by obtain ⟨m, hm⟩ := k2; exact DataW.trod_lt m _ _ _ hm
  obtain ⟨a2, w2, av2⟩ := arg_one (dd := fun x => .int .i64 x) (opens_int Try.underlying3) (fun _ => rfl) h2 (hwt 2 _ _ rfl rfl) (by obtain ⟨_, hx, _⟩ := open_int Try.underlying3 (hval 2 3 v2 rfl rfl) h2; intro cs e; rw [hx] at e; cases e)
  have k3 := h3
  have lt3 : ∀ x ∈ p3, x.block < W.heap.size := by obtain ⟨m, hm⟩ := k3; exact DataW.trod_lt m _ _ _ hm
  obtain ⟨a3, w3, av3⟩ := arg_one (dd := fun x => .int .i64 x) (opens_int Try.underlying3) (fun _ => rfl) h3 (hwt 3 _ _ rfl rfl) (by obtain ⟨_, hx, _⟩ := open_int Try.underlying3 (hval 3 3 v3 rfl rfl) h3; intro cs e; rw [hx] at e; cases e)
  clear hA0 hval0
  refine (law_calls (law15_SpfReverse_ok a0 a1 a2 a3 true (plain_SpfReverse a0 a1 a2 a3 w0 w1 w2 w3)) (gt_none (by kernel_rfl)) (vs_av_cons av0 (vs_av_cons av1 (vs_av_cons av2 (vs_av_cons av3 vs_av_nil))))).mono fun e W' ⟨he, bel⟩ => ?_
  subst he
  exact ⟨_, rfl, _, _, _, [], _, [], hW', trodAll_mk1 (shut_bool Try.underlying4 _), (trodAll_cons_mk (Below.trod laidOut (by kernel_rfl) (of_decide_eq_true (by kernel_rfl)) k0 bel lt0) (trodAll_cons_mk (Below.trod laidOut (by kernel_rfl) (of_decide_eq_true (by kernel_rfl)) k1 bel lt1) (trodAll_cons_mk (Below.trod laidOut (by kernel_rfl) (of_decide_eq_true (by kernel_rfl)) k2 bel lt2) (trodAll_cons_mk (Below.trod laidOut (by kernel_rfl) (of_decide_eq_true (by kernel_rfl)) k3 bel lt3) trodAll_mk0)))), rfl, bel.frame _, fun h => by cases h⟩
theorem over : Rows.spfReverseRow.holds Try.pinned (OpenSpec.ofChange Rows.spfReverseSpec) :=
  OpenClaim.holds_of_wide 6 Try.f6 rfl rfl rfl rfl rfl rfl rfl ⟨rfl, rfl, rfl, rfl, rfl⟩ rfl rfl rfl rfl rfl (by kernel_rfl) Try.func6 (by kernel_rfl)
    (of_decide_eq_true (by kernel_rfl)) (by unfold Func.isWrapper; first | (rw [if_pos (by decide +kernel)]; kernel_rfl) | (rw [if_neg (by decide +kernel)]; exact ⟨rfl, rfl⟩))
    (fun os started H enc _ => lifted os started H enc)
theorem proved : Rows.SpfReverseSaid := over
#print axioms proved
end Go.Proofs.Ytlhpjcjjnbfmbaa.spfReverse
