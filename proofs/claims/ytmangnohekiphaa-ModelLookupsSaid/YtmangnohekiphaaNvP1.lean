/- The plain law of ModelLookups: the lookups are the reference's loops. -/
import Derived.Test.YtmangnohekiphaaNvW1
import Derived.Test.YtmangnohekiphaaNvLoop
import Derived.Test.YtmangnohekiphaaNvS1
namespace Nv
open Go Go.Proofs

theorem eq_Router (a0 : TNetwork) (a1 : ByteArray) : M.model_Router a0 a1 = M.ref8_Router a0 a1 := by
  have e : M.slices_IndexFunc_api_Router_api_Router__model_Router_1_l1 a0.fRouters a1 = M.ref8_Router_l1 a0 a1 := by
    funext p
    simp only [M.slices_IndexFunc_api_Router_api_Router__model_Router_1_l1, M.ref8_Router_l1, M.model_Router_1, Option.bind_some]
  simp only [M.model_Router, M.slices_IndexFunc_api_Router_api_Router__model_Router_1, M.ref8_Router, e, Option.bind_fun_some]
theorem eq_Interface (a0 : TRouter) (a1 : ByteArray) : M.model_Interface a0 a1 = M.ref8_Interface a0 a1 := by
  have e : M.slices_IndexFunc_api_Interface_api_Interface__model_Interface_1_l1 a0.fInterfaces a1 = M.ref8_Interface_l1 a0 a1 := by
    funext p
    simp only [M.slices_IndexFunc_api_Interface_api_Interface__model_Interface_1_l1, M.ref8_Interface_l1, M.model_Interface_1, Option.bind_some]
  simp only [M.model_Interface, M.slices_IndexFunc_api_Interface_api_Interface__model_Interface_1, M.ref8_Interface, e, Option.bind_fun_some]
theorem eq_PrefixList (a0 : TRouter) (a1 : ByteArray) : M.model_PrefixList a0 a1 = M.ref8_PrefixList a0 a1 := by
  have e : M.slices_IndexFunc_api_PrefixList_api_PrefixList__model_PrefixList_1_l1 a0.fLists a1 = M.ref8_PrefixList_l1 a0 a1 := by
    funext p
    simp only [M.slices_IndexFunc_api_PrefixList_api_PrefixList__model_PrefixList_1_l1, M.ref8_PrefixList_l1, M.model_PrefixList_1, Option.bind_some]
  simp only [M.model_PrefixList, M.slices_IndexFunc_api_PrefixList_api_PrefixList__model_PrefixList_1, M.ref8_PrefixList, e, Option.bind_fun_some]
theorem eq_RouteMap (a0 : TRouter) (a1 : ByteArray) : M.model_RouteMap a0 a1 = M.ref8_RouteMap a0 a1 := by
  have e : M.slices_IndexFunc_api_RouteMap_api_RouteMap__model_RouteMap_1_l1 a0.fMaps a1 = M.ref8_RouteMap_l1 a0 a1 := by
    funext p
    simp only [M.slices_IndexFunc_api_RouteMap_api_RouteMap__model_RouteMap_1_l1, M.ref8_RouteMap_l1, M.model_RouteMap_1, Option.bind_some]
  simp only [M.model_RouteMap, M.slices_IndexFunc_api_RouteMap_api_RouteMap__model_RouteMap_1, M.ref8_RouteMap, e, Option.bind_fun_some]
theorem eq_ACL (a0 : TRouter) (a1 : ByteArray) : M.model_ACL a0 a1 = M.ref8_ACL a0 a1 := by
  have e : M.slices_IndexFunc_api_ACL_api_ACL__model_ACL_1_l1 a0.fACLs a1 = M.ref8_ACL_l1 a0 a1 := by
    funext p
    simp only [M.slices_IndexFunc_api_ACL_api_ACL__model_ACL_1_l1, M.ref8_ACL_l1, M.model_ACL_1, Option.bind_some]
  simp only [M.model_ACL, M.slices_IndexFunc_api_ACL_api_ACL__model_ACL_1, M.ref8_ACL, e, Option.bind_fun_some]
theorem guard_two (g a b : Bool) : List.all [a, b, guardB g a, guardB g b] id = List.all [a, b] id := by cases g <;> cases a <;> cases b <;> rfl
theorem eq_Address (a0 : TRouter) (a1 : Int) : M.model_Address a0 a1 = M.ref8_Address a0 a1 := by
  have e : M.slices_IndexFunc_api_Interface_api_Interface__model_Address_1_l1 a0.fInterfaces a1 = M.ref8_Address_l1 a0 a1 := by
    funext p
    simp only [M.slices_IndexFunc_api_Interface_api_Interface__model_Address_1_l1, M.ref8_Address_l1, M.model_Address_1, Option.bind_some, gd, guard_two]
  simp only [M.model_Address, M.slices_IndexFunc_api_Interface_api_Interface__model_Address_1, M.ref8_Address, e, Option.bind_fun_some]

/-! each lookup gives something -/
theorem tot_Router (a0 : TNetwork) (a1 : ByteArray) (h : a0.fRouters.length ≤ maxLen) : ∃ k, M.ref8_Router a0 a1 = some k := by
  obtain ⟨y, _, hy⟩ := loop_total (f := M.ref8_Router_l1 a0 a1) (n := a0.fRouters.length) (fun _ => True) (fun i hi => by
    simp only [M.ref8_Router_l1, lt_t hi, cond_true, ge_t, gd_tt, wr_up hi h]
    exact two_ways _ _ _) (by simp only [M.ref8_Router_l1, lt_f, cond_false]; exact ⟨_, trivial, rfl⟩)
  simp only [M.ref8_Router, hy, Option.bind_some]
  cases y <;> exact ⟨_, rfl⟩
theorem tot_Interface (a0 : TRouter) (a1 : ByteArray) (h : a0.fInterfaces.length ≤ maxLen) : ∃ k, M.ref8_Interface a0 a1 = some k := by
  obtain ⟨y, _, hy⟩ := loop_total (f := M.ref8_Interface_l1 a0 a1) (n := a0.fInterfaces.length) (fun _ => True) (fun i hi => by
    simp only [M.ref8_Interface_l1, lt_t hi, cond_true, ge_t, gd_tt, wr_up hi h]
    exact two_ways _ _ _) (by simp only [M.ref8_Interface_l1, lt_f, cond_false]; exact ⟨_, trivial, rfl⟩)
  simp only [M.ref8_Interface, hy, Option.bind_some]
  cases y <;> exact ⟨_, rfl⟩
theorem tot_PrefixList (a0 : TRouter) (a1 : ByteArray) (h : a0.fLists.length ≤ maxLen) : ∃ k, M.ref8_PrefixList a0 a1 = some k := by
  obtain ⟨y, _, hy⟩ := loop_total (f := M.ref8_PrefixList_l1 a0 a1) (n := a0.fLists.length) (fun _ => True) (fun i hi => by
    simp only [M.ref8_PrefixList_l1, lt_t hi, cond_true, ge_t, gd_tt, wr_up hi h]
    exact two_ways _ _ _) (by simp only [M.ref8_PrefixList_l1, lt_f, cond_false]; exact ⟨_, trivial, rfl⟩)
  simp only [M.ref8_PrefixList, hy, Option.bind_some]
  cases y <;> exact ⟨_, rfl⟩
theorem tot_RouteMap (a0 : TRouter) (a1 : ByteArray) (h : a0.fMaps.length ≤ maxLen) : ∃ k, M.ref8_RouteMap a0 a1 = some k := by
  obtain ⟨y, _, hy⟩ := loop_total (f := M.ref8_RouteMap_l1 a0 a1) (n := a0.fMaps.length) (fun _ => True) (fun i hi => by
    simp only [M.ref8_RouteMap_l1, lt_t hi, cond_true, ge_t, gd_tt, wr_up hi h]
    exact two_ways _ _ _) (by simp only [M.ref8_RouteMap_l1, lt_f, cond_false]; exact ⟨_, trivial, rfl⟩)
  simp only [M.ref8_RouteMap, hy, Option.bind_some]
  cases y <;> exact ⟨_, rfl⟩
theorem tot_ACL (a0 : TRouter) (a1 : ByteArray) (h : a0.fACLs.length ≤ maxLen) : ∃ k, M.ref8_ACL a0 a1 = some k := by
  obtain ⟨y, _, hy⟩ := loop_total (f := M.ref8_ACL_l1 a0 a1) (n := a0.fACLs.length) (fun _ => True) (fun i hi => by
    simp only [M.ref8_ACL_l1, lt_t hi, cond_true, ge_t, gd_tt, wr_up hi h]
    exact two_ways _ _ _) (by simp only [M.ref8_ACL_l1, lt_f, cond_false]; exact ⟨_, trivial, rfl⟩)
  simp only [M.ref8_ACL, hy, Option.bind_some]
  cases y <;> exact ⟨_, rfl⟩
theorem tot_Address (a0 : TRouter) (a1 : Int) (h : a0.fInterfaces.length ≤ maxLen) : ∃ k, M.ref8_Address a0 a1 = some k := by
  obtain ⟨y, _, hy⟩ := loop_total (f := M.ref8_Address_l1 a0 a1) (n := a0.fInterfaces.length) (fun _ => True) (fun i hi => by
    simp only [M.ref8_Address_l1, gd, guard_two]
    simp only [lt_t hi, ge_t, cond_true, List.all_cons, List.all_nil, id, Bool.and_true, wr_up hi h]
    exact two_ways _ _ _) (by simp only [M.ref8_Address_l1, lt_f, cond_false]; exact ⟨_, trivial, rfl⟩)
  simp only [M.ref8_Address, hy, Option.bind_some]
  cases y <;> exact ⟨_, rfl⟩
theorem tot_Small (a0 : TRouter) (h1 : a0.fLists.length ≤ maxLen) (h2 : a0.fMaps.length ≤ maxLen) (h3 : a0.fACLs.length ≤ maxLen) : ∃ b, M.law5_Small a0 = some b := by
  obtain ⟨y1, _, e1⟩ := loop_total (f := M.law5_Small_l1 a0) (n := a0.fLists.length) (fun _ => True) (fun i hi => by
    simp only [M.law5_Small_l1, lt_t hi, cond_true, ge_t, gd_tt, wr_up hi h1]
    exact two_ways _ _ _) (by simp only [M.law5_Small_l1, lt_f, cond_false]; exact ⟨_, trivial, rfl⟩)
  obtain ⟨y2, _, e2⟩ := loop_total (f := M.law5_Small_l2 a0) (n := a0.fMaps.length) (fun _ => True) (fun i hi => by
    simp only [M.law5_Small_l2, lt_t hi, cond_true, ge_t, gd_tt, wr_up hi h2]
    exact two_ways _ _ _) (by simp only [M.law5_Small_l2, lt_f, cond_false]; exact ⟨_, trivial, rfl⟩)
  obtain ⟨y3, _, e3⟩ := loop_total (f := M.law5_Small_l3 a0) (n := a0.fACLs.length) (fun _ => True) (fun i hi => by
    simp only [M.law5_Small_l3, lt_t hi, cond_true, ge_t, gd_tt, wr_up hi h3]
    exact two_ways _ _ _) (by simp only [M.law5_Small_l3, lt_f, cond_false]; exact ⟨_, trivial, rfl⟩)
  unfold M.law5_Small
  rw [e1, e2, e3]
  generalize (_ || _ : Bool) = b
  cases b <;> simp only [cond_true, cond_false, Option.bind_some]
  · cases y1 <;> cases y2 <;> cases y3 <;> exact ⟨_, rfl⟩
  · exact ⟨_, rfl⟩

theorem ne_self (k : Int) : (k != k) = false := by simp

theorem l2_tot (a0 : TNetwork) (i : Nat) (h : (a0.fRouters.getD i default).fInterfaces.length ≤ maxLen) : loopM (M.law5_ModelLookups_l2 a0 (i : Int)) 0 = some (.inl ()) := by
  obtain ⟨y, hQ, hy⟩ := loop_total (f := M.law5_ModelLookups_l2 a0 (i : Int)) (n := (a0.fRouters.getD i default).fInterfaces.length) (fun y => y = .inl ()) (fun j hj => by
    simp only [M.law5_ModelLookups_l2, Int.toNat_natCast, lt_t hj, cond_true, ge_t, gd_tt, wr_up hj h]
    generalize a0.fRouters.getD i default = r at h
    generalize r.fInterfaces.getD j default = x
    obtain ⟨k1, e1⟩ := tot_Interface r x.fName h
    obtain ⟨k2, e2⟩ := tot_Address r x.fAddr h
    simp only [eq_Interface, eq_Address, e1, e2, Option.bind_some, ne_self, gc, Bool.not_false, cond_true, Bool.or_false, cond_false]
    exact .inl trivial) (by simp only [M.law5_ModelLookups_l2, Int.toNat_natCast, lt_f, cond_false]; exact ⟨_, rfl, rfl⟩)
  rw [hy, hQ]

theorem plain_ModelLookups (a0 : TNetwork) (a1 : ByteArray) (a2 : Int) (w0 : W_TNetwork a0) (_w1 : a1.size ≤ maxLen) (_w2 : (Lit.int .u32 a2).wf = true) : M.law5_ModelLookups a0 a1 a2 = some true := by
  obtain ⟨hl, hr⟩ := w0
  unfold M.law5_ModelLookups
  generalize (decide ((a0.fRouters.length : Int) > 8) || decide ((a1.size : Int) > 40)) = b
  cases b with
  | true => rfl
  | false =>
    obtain ⟨k, hk⟩ := tot_Router a0 a1 hl
    simp only [cond_false, eq_Router, hk, Option.bind_some, ne_self]
    obtain ⟨y, hQ, hy⟩ := loop_total (f := M.law5_ModelLookups_l1 a0 a1 a2) (n := a0.fRouters.length) (fun y => y = .inl () ∨ y = .inr true) (fun i hi => by
      have hmem : a0.fRouters.getD i default ∈ a0.fRouters := by simp [hi]
      have hw := hr _ hmem
      simp only [M.law5_ModelLookups_l1, Int.toNat_natCast, lt_t hi, cond_true, ge_t, gd_tt, wr_up hi hl]
      have h2 := l2_tot a0 i hw.2.2.1.1
      generalize a0.fRouters.getD i default = r at hw
      obtain ⟨_, _, ⟨hi1, _⟩, ⟨hi2, _⟩, ⟨hi3, _⟩, ⟨hi4, _⟩, _⟩ := hw
      obtain ⟨s, hs⟩ := tot_Small r hi2 hi3 hi4
      rw [hs]
      simp only [Option.bind_some]
      cases s with
      | false => exact .inr ⟨_, .inr rfl, rfl⟩
      | true =>
        obtain ⟨k1, e1⟩ := tot_Interface r a1 hi1
        obtain ⟨k2, e2⟩ := tot_PrefixList r a1 hi2
        obtain ⟨k3, e3⟩ := tot_RouteMap r a1 hi3
        obtain ⟨k4, e4⟩ := tot_ACL r a1 hi4
        obtain ⟨k5, e5⟩ := tot_Address r a2 hi1
        simp only [Bool.not_true, cond_false, eq_Interface, eq_PrefixList, eq_RouteMap, eq_ACL, eq_Address, e1, e2, e3, e4, e5, Option.bind_some, ne_self, gc, Bool.not_false, cond_true, Bool.or_false, h2, Sum.elim_inl]
        exact .inl trivial)
      (by simp only [M.law5_ModelLookups_l1, lt_f, cond_false]; exact ⟨_, .inl rfl, rfl⟩)
    rw [hy]
    rcases hQ with rfl | rfl
    · simp only [Option.bind_some, Sum.elim_inl, sane_true]
    · rfl
end Nv
