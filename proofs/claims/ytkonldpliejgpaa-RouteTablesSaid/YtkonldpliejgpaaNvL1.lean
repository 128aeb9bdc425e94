/- The law RouteTables of the given program: for every input the call returns true, and each argument reads behind the call as it read before. No condition. -/
import Derived.Test.YtkonldpliejgpaaRows
import Derived.Test.YtkonldpliejgpaaNvM1
import Derived.Test.YtkonldpliejgpaaNvW1
import Derived.Test.YtkonldpliejgpaaNvP1
import Derived.WalkKit
import Derived.ProofKit
import Derived.OpenShut
import Derived.ShutString
import Derived.ChangeOld
import Derived.Below
namespace Go.Proofs.Ytkonldpliejgpaa.routeTables
open Go.ChangeShapes Go.WideShapes Go.ChangeAt Go.RowKit Nv
open Go.ChangeMaps (open_string shut_string)

theorem own : ownKnob Try.prog.godebug = none := by kernel_rfl
theorem laidOut : laidOutB Try.prog = true := by kernel_rfl

set_option maxRecDepth 100000 in
theorem lifted (os : Os) (started : os.Started) (H : Type) (enc : TypeId × Value → H) :
    ReturnsInHanded {} Try.checked os 8 .any (Rows.routeTablesSpec.pre6 enc Try.prog Try.f8 Rows.routeTablesRow.domain false) (Rows.routeTablesSpec.post enc Try.prog Try.f8 false true false false) := by
  refine returnsInHanded_of_change (C := Try.checked) own started (by kernel_rfl) Try.func8
    (ChangeSpec.witness6 (enc := enc) (C := Try.checked) false ⟨#[], #[.slice none 0 0, .int .i64 0, ((Try.prog.info? 24).bind (·.zero)).getD (.agg #[]), .int .u32 0], []⟩ 8 (by kernel_rfl) (by kernel_rfl) (by kernel_rfl) (by kernel_rfl)) ?_
  intro W base args ds gs before hval0 hW hcnd _
  have hval : ∀ (j : Nat) t v, Try.f8.params[j]? = some t → args[j]? = some v → Value.okWide Try.prog W .any base t v := hval0
  have hW' := hW
  obtain ⟨p, q, hA0, hV, rfl, hfz, hnd⟩ := hW
  have hA : DataW.TrodAll enc Try.prog W 0 (fun _ => true) true Try.f8.params.toList args.toList ds p := hA0
  rw [Try.params8] at hA hval
  obtain ⟨v0, vs0, d0, ds0, p0, q0, hargs, rfl, rfl, h0, r0⟩ := trodAll_cons hA
  obtain ⟨v1, vs1, d1, ds1, p1, q1, rfl, rfl, rfl, h1, r1⟩ := trodAll_cons r0
  obtain ⟨v2, vs2, d2, ds2, p2, q2, rfl, rfl, rfl, h2, r2⟩ := trodAll_cons r1
  obtain ⟨v3, vs3, d3, ds3, p3, q3, rfl, rfl, rfl, h3, r3⟩ := trodAll_cons r2
  obtain ⟨rfl, rfl, rfl⟩ := trodAll_nil r3
  obtain rfl : args = #[v0, v1, v2, v3] := by cases args; simp_all
  obtain ⟨rfl, rfl⟩ := trodVars_none hV
  have k0 := h0
  have lt0 : ∀ x ∈ p0, x.block < W.heap.size := by obtain ⟨m, hm⟩ := k0; exact DataW.trod_lt m _ _ _ hm
  obtain ⟨a0, w0, av0⟩ := arg_one (dd := fun x => sL 14 c_TRoute x) (opens_slice (wd := 14) Try.underlying30 (by kernel_rfl) (by decide) (open_t28 enc W)) (fun _ => rfl) h0 (by obtain ⟨_, _, _, hx⟩ := okWide_slice Try.underlying30 (hval 0 30 v0 rfl rfl); intro cs e; rw [hx] at e; cases e)
  have k1 := h1
  have lt1 : ∀ x ∈ p1, x.block < W.heap.size := by obtain ⟨m, hm⟩ := k1; exact DataW.trod_lt m _ _ _ hm
  obtain ⟨a1, w1, av1⟩ := arg_one (dd := fun x => .int .i64 x) (opens_int Try.underlying3) (fun _ => rfl) h1 (by obtain ⟨_, hx, _⟩ := open_int Try.underlying3 (hval 1 3 v1 rfl rfl) h1; intro cs e; rw [hx] at e; cases e)
  have k2 := h2
  have lt2 : ∀ x ∈ p2, x.block < W.heap.size := by obtain ⟨m, hm⟩ := k2; exact DataW.trod_lt m _ _ _ hm
  obtain ⟨a2, w2, av2⟩ := arg_agg (open_t24 enc W) h2 (by obtain ⟨cs, hcs, _⟩ := okWide_struct Try.underlying24 (hval 2 24 v2 rfl rfl); exact ⟨cs, hcs⟩)
  have k3 := h3
  have lt3 : ∀ x ∈ p3, x.block < W.heap.size := by obtain ⟨m, hm⟩ := k3; exact DataW.trod_lt m _ _ _ hm
  obtain ⟨a3, w3, av3⟩ := arg_one (dd := fun x => .int .u32 x) (opens_int Try.underlying22) (fun _ => rfl) h3 (by obtain ⟨_, hx, _⟩ := open_int Try.underlying22 (hval 3 22 v3 rfl rfl) h3; intro cs e; rw [hx] at e; cases e)
  clear hA0 hval0
  refine (law_calls (law14_RouteTables_ok a0 a1 a2 a3 true (plain_RouteTables a0 a1 a2 a3 w0 w1 w2 w3)) (vs_av_cons av0 (vs_av_cons av1 (vs_av_cons av2 (vs_av_cons av3 vs_av_nil))))).mono fun e W' ⟨he, bel⟩ => ?_
  subst he
  exact ⟨_, rfl, _, _, _, [], _, [], hW', trodAll_mk1 (shut_bool Try.underlying4 _), (trodAll_cons_mk (Below.trod laidOut (by kernel_rfl) (of_decide_eq_true (by kernel_rfl)) k0 bel lt0) (trodAll_cons_mk (Below.trod laidOut (by kernel_rfl) (of_decide_eq_true (by kernel_rfl)) k1 bel lt1) (trodAll_cons_mk (Below.trod laidOut (by kernel_rfl) (of_decide_eq_true (by kernel_rfl)) k2 bel lt2) (trodAll_cons_mk (Below.trod laidOut (by kernel_rfl) (of_decide_eq_true (by kernel_rfl)) k3 bel lt3) trodAll_mk0)))), rfl, bel.frame _, fun h => by cases h⟩

theorem over : Rows.routeTablesRow.holds Try.pinned (OpenSpec.ofChange Rows.routeTablesSpec) :=
  OpenClaim.holds_of_wide 8 Try.f8 rfl rfl rfl rfl rfl rfl rfl ⟨rfl, rfl, rfl, rfl, rfl⟩ rfl rfl rfl rfl rfl (by kernel_rfl) Try.func8 (by kernel_rfl)
    (of_decide_eq_true (by kernel_rfl)) (by unfold Func.isWrapper; first | (rw [if_pos (by decide +kernel)]; kernel_rfl) | (rw [if_neg (by decide +kernel)]; exact ⟨rfl, rfl⟩))
    (fun os started H enc _ => lifted os started H enc)

/-- THE STATEMENT -/
theorem proved : Rows.RouteTablesSaid := over
#print axioms proved
end Go.Proofs.Ytkonldpliejgpaa.routeTables
