/- The total form of the law. -/
import Derived.Test.YtmangnohekiphaaNvT1
import Derived.KernelRfl
set_option maxRecDepth 100000
namespace Nv
open Go
theorem sane_true : S.law5_sane = true := by kernel_rfl
noncomputable def S.law5_ModelAddresses_l1 (a0 : TNetwork) (i1 : Nat) : Option (Unit ⊕ Bool) :=
  letS (S.law5_Small (a0.fRouters.getD i1 default)) (fun r3 => bif !r3 then (some (.inr true)) else none)
theorem s_law5_ModelAddresses_l1 (a0 : TNetwork) (ha0 : L_TNetwork a0) (i0 : Nat) : loopM (M.law5_ModelAddresses_l1 a0) (i0 : Int) = some (runN (S.law5_ModelAddresses_l1 a0) (.inl ()) i0 (a0.fRouters.length - i0)) := by
  have hM := maxLen_eq
  have hni1 : a0.fRouters.length ≤ maxLen := (L_TNetwork.fRouters ha0).1
  refine loop_runN (n := a0.fRouters.length) (fun i1 hi1 => ?_) (fun m hm => ?_) i0
  · unfold M.law5_ModelAddresses_l1 S.law5_ModelAddresses_l1
    try simp only [Int.toNat_natCast]
    refine s_then (dt (by omega)) ?_
    refine s_bindN (s_law5_Small (a0.fRouters.getD i1 default) (LL.getD (L_TNetwork.fRouters ha0) L_TRouter.dflt i1)) (fun r3 her3 => ?_)
    refine s_gd (all_c (dt (by omega)) (all_c (dt (by omega)) all_n)) ?_
    refine s_ifN (fun hb2 => ?_) (fun hb2 => ?_)
    · exact s_out
    · exact s_up (by omega)
  · unfold M.law5_ModelAddresses_l1
    try simp only [Int.toNat_natCast]
    exact s_else (decide_eq_false (by omega)) rfl
noncomputable def S.law5_ModelAddresses_k1 (i11 : Nat) (s11 : Int) (p13 : Int) : Int ⊕ (Int ⊕ Bool) :=
  .inl (p13)
theorem s_law5_ModelAddresses_k1 (i11 : Nat) (s11 : Int) (p13 : Int) (hi11 : i11 < maxLen) : M.law5_ModelAddresses_k1 (s11, (i11 : Int)) p13 = some (rdT (fun (i : Nat) (s11 : Int) => (s11, (i : Int))) (S.law5_ModelAddresses_k1 i11 s11 p13) i11) := by
  have hM := maxLen_eq
  unfold M.law5_ModelAddresses_k1 S.law5_ModelAddresses_k1
  try simp only [Int.toNat_natCast]
  rw [up_i64 (by omega)]
  rfl
noncomputable def S.law5_ModelAddresses_l4 (a0 : TNetwork) (i9 : Nat) (i11 : Nat) (s11 : Int) (i15 : Nat) : Option (Unit ⊕ Bool) :=
  letS (S.model_Address (a0.fRouters.getD i15 default) ((((a0.fRouters.getD i9 default).fInterfaces).getD i11 default).fAddr)) (fun r17 => bif (!(((i15 : Int) == (i9 : Int)) == (decide (r17 ≥ 0)))) || (((i15 : Int) == (i9 : Int)) && (r17 != (i11 : Int))) then (some (.inr false)) else none)
theorem s_law5_ModelAddresses_l4 (a0 : TNetwork) (i9 : Nat) (i11 : Nat) (s11 : Int) (ha0 : L_TNetwork a0) (hi9 : i9 < a0.fRouters.length) (hi11 : i11 < ((a0.fRouters.getD i9 default).fInterfaces).length) (i0 : Nat) : loopM (M.law5_ModelAddresses_l4 a0 (i9 : Int) (s11, (i11 : Int))) (i0 : Int) = some (runN (S.law5_ModelAddresses_l4 a0 i9 i11 s11) (.inl ()) i0 (a0.fRouters.length - i0)) := by
  have hM := maxLen_eq
  have hni9 : a0.fRouters.length ≤ maxLen := (L_TNetwork.fRouters ha0).1
  have hni11 : ((a0.fRouters.getD i9 default).fInterfaces).length ≤ maxLen := (L_TRouter.fInterfaces (LL.getD (L_TNetwork.fRouters ha0) L_TRouter.dflt i9)).1
  have hni15 : a0.fRouters.length ≤ maxLen := (L_TNetwork.fRouters ha0).1
  refine loop_runN (n := a0.fRouters.length) (fun i15 hi15 => ?_) (fun m hm => ?_) i0
  · unfold M.law5_ModelAddresses_l4 S.law5_ModelAddresses_l4
    try simp only [Int.toNat_natCast]
    refine s_then (dt (by omega)) ?_
    refine s_bindN (s_model_Address (a0.fRouters.getD i15 default) ((((a0.fRouters.getD i9 default).fInterfaces).getD i11 default).fAddr) (LL.getD (L_TNetwork.fRouters ha0) L_TRouter.dflt i15)) (fun r17 her17 => ?_)
    refine s_gd (all_c (dt (by omega)) (all_c (dt (by omega)) all_n)) ?_
    refine s_ifN (fun hb6 => ?_) (fun hb6 => ?_)
    · exact s_out
    · exact s_up (by omega)
  · unfold M.law5_ModelAddresses_l4
    try simp only [Int.toNat_natCast]
    exact s_else (decide_eq_false (by omega)) rfl
noncomputable def S.law5_ModelAddresses_k2 (a0 : TNetwork) (i9 : Nat) (i11 : Nat) (s11 : Int) (p14 : Int) : Int ⊕ (Int ⊕ Bool) :=
  letS (runN (S.law5_ModelAddresses_l4 a0 i9 i11 s11) (.inl ()) 0 a0.fRouters.length) (fun y18 => Sum.elim (fun _ => S.law5_ModelAddresses_k1 i11 s11 p14) (fun y20 => .inr (.inr y20)) y18)
theorem s_law5_ModelAddresses_k2 (a0 : TNetwork) (i9 : Nat) (i11 : Nat) (s11 : Int) (p14 : Int) (ha0 : L_TNetwork a0) (hi9 : i9 < a0.fRouters.length) (hi11 : i11 < ((a0.fRouters.getD i9 default).fInterfaces).length) : M.law5_ModelAddresses_k2 a0 (i9 : Int) (s11, (i11 : Int)) p14 = some (rdT (fun (i : Nat) (s11 : Int) => (s11, (i : Int))) (S.law5_ModelAddresses_k2 a0 i9 i11 s11 p14) i11) := by
  have hM := maxLen_eq
  have hni9 : a0.fRouters.length ≤ maxLen := (L_TNetwork.fRouters ha0).1
  have hni11 : ((a0.fRouters.getD i9 default).fInterfaces).length ≤ maxLen := (L_TRouter.fInterfaces (LL.getD (L_TNetwork.fRouters ha0) L_TRouter.dflt i9)).1
  unfold M.law5_ModelAddresses_k2 S.law5_ModelAddresses_k2
  try simp only [Int.toNat_natCast]
  refine s_bindT (s_law5_ModelAddresses_l4 a0 i9 i11 s11 ha0 hi9 hi11 0) (fun y18 hey18 => ?_)
  refine s_elimT (fun _ hl => ?_) (fun y20 hly20 => ?_)
  · exact s_law5_ModelAddresses_k1 i11 s11 p14 (by omega)
  · exact s_outT
noncomputable def S.law5_ModelAddresses_l3 (a0 : TNetwork) (a1 : Int) (i9 : Nat) (i11 : Nat) (s11 : Int) : Int ⊕ (Int ⊕ Bool) :=
  bif ((((a0.fRouters.getD i9 default).fInterfaces).getD i11 default).fLen) == 0 then (S.law5_ModelAddresses_k1 i11 s11 s11) else (letS (S.ref4_Network ((((a0.fRouters.getD i9 default).fInterfaces).getD i11 default).fAddr) ((((a0.fRouters.getD i9 default).fInterfaces).getD i11 default).fLen)) (fun r21 => letS (S.ref4_Contains r21 a1) (fun r22 => bif r22 then (S.law5_ModelAddresses_k2 a0 i9 i11 s11 (wr .i64 (s11 + 1))) else (S.law5_ModelAddresses_k2 a0 i9 i11 s11 s11))))
theorem s_law5_ModelAddresses_l3 (a0 : TNetwork) (a1 : Int) (i9 : Nat) (ha0 : L_TNetwork a0) (hi9 : i9 < a0.fRouters.length) (i0 : Nat) (s0 : Int) : loopM (M.law5_ModelAddresses_l3 a0 a1 (i9 : Int)) ((fun (i : Nat) (s11 : Int) => (s11, (i : Int))) i0 s0) = some (runT (S.law5_ModelAddresses_l3 a0 a1 i9) (fun s11 => .inl s11) i0 (((a0.fRouters.getD i9 default).fInterfaces).length - i0) s0) := by
  have hM := maxLen_eq
  have hni9 : a0.fRouters.length ≤ maxLen := (L_TNetwork.fRouters ha0).1
  have hni11 : ((a0.fRouters.getD i9 default).fInterfaces).length ≤ maxLen := (L_TRouter.fInterfaces (LL.getD (L_TNetwork.fRouters ha0) L_TRouter.dflt i9)).1
  refine loop_runT (n := ((a0.fRouters.getD i9 default).fInterfaces).length) (mk := (fun (i : Nat) (s11 : Int) => (s11, (i : Int)))) (fun i11 s11 hi11 => ?_) (fun m s11 hm => ?_) i0 s0
  · unfold M.law5_ModelAddresses_l3 S.law5_ModelAddresses_l3
    try simp only [Int.toNat_natCast]
    refine s_gd (all_c (dt (by omega)) (all_c (dt (by omega)) all_n))  ?_
    refine s_then (dt (by omega)) ?_
    refine s_gd (all_c (dt (by omega)) (all_c (dt (by omega)) (all_c (dt (by omega)) (all_c (dt (by omega)) all_n)))) ?_
    refine s_ifT (fun hb4 => ?_) (fun hb4 => ?_)
    · exact s_law5_ModelAddresses_k1 i11 s11 s11 (by omega)
    · refine s_bindT (s_ref4_Network ((((a0.fRouters.getD i9 default).fInterfaces).getD i11 default).fAddr) ((((a0.fRouters.getD i9 default).fInterfaces).getD i11 default).fLen)) (fun r21 her21 => ?_)
      refine s_bindT (s_ref4_Contains r21 a1) (fun r22 her22 => ?_)
      refine s_ifT (fun hb5 => ?_) (fun hb5 => ?_)
      · exact s_law5_ModelAddresses_k2 a0 i9 i11 s11 (wr .i64 (s11 + 1)) ha0 hi9 hi11
      · exact s_law5_ModelAddresses_k2 a0 i9 i11 s11 s11 ha0 hi9 hi11
  · unfold M.law5_ModelAddresses_l3
    try simp only [Int.toNat_natCast]
    refine s_gd (all_c (dt (by omega)) (all_c (dt (by omega)) all_n))  ?_
    exact s_else (decide_eq_false (by omega)) rfl
noncomputable def S.law5_ModelAddresses_l2 (a0 : TNetwork) (a1 : Int) (i9 : Nat) : Option (Unit ⊕ Bool) :=
  letS (runT (S.law5_ModelAddresses_l3 a0 a1 i9) (fun s11 => .inl s11) 0 (((a0.fRouters.getD i9 default).fInterfaces).length) (0)) (fun y23 => Sum.elim (fun g24 => bif decide (g24 > 1) then (some (.inr false)) else none) (fun y25 => some (.inr y25)) y23)
theorem s_law5_ModelAddresses_l2 (a0 : TNetwork) (a1 : Int) (ha0 : L_TNetwork a0) (i0 : Nat) : loopM (M.law5_ModelAddresses_l2 a0 a1) (i0 : Int) = some (runN (S.law5_ModelAddresses_l2 a0 a1) (.inl ()) i0 (a0.fRouters.length - i0)) := by
  have hM := maxLen_eq
  have hni9 : a0.fRouters.length ≤ maxLen := (L_TNetwork.fRouters ha0).1
  refine loop_runN (n := a0.fRouters.length) (fun i9 hi9 => ?_) (fun m hm => ?_) i0
  · unfold M.law5_ModelAddresses_l2 S.law5_ModelAddresses_l2
    try simp only [Int.toNat_natCast]
    refine s_then (dt (by omega)) ?_
    refine s_bindN (s_law5_ModelAddresses_l3 a0 a1 i9 ha0 hi9 0 (0)) (fun y23 hey23 => ?_)
    refine s_elimN (fun g24 hlg24 => ?_) (fun y25 hly25 => ?_)
    · refine s_ifN (fun hb7 => ?_) (fun hb7 => ?_)
      · exact s_out
      · exact s_up (by omega)
    · exact s_out
  · unfold M.law5_ModelAddresses_l2
    try simp only [Int.toNat_natCast]
    exact s_else (decide_eq_false (by omega)) rfl
noncomputable def S.law5_ModelAddresses (a0 : TNetwork) (a1 : Int) : Bool :=
  bif decide ((a0.fRouters.length : Int) > 8) then true else (letS (runN (S.law5_ModelAddresses_l1 a0) (.inl ()) 0 a0.fRouters.length) (fun y4 => Sum.elim (fun _ => letS (S.model_Check a0) (fun r7 => bif r7 != 0 then (letS (S.law5_sane) (fun r8 => r8)) else (letS (runN (S.law5_ModelAddresses_l2 a0 a1) (.inl ()) 0 a0.fRouters.length) (fun y26 => Sum.elim (fun _ => letS (S.law5_sane) (fun r29 => r29)) (fun y28 => y28) y26)))) (fun y6 => y6) y4))
theorem s_law5_ModelAddresses (a0 : TNetwork) (a1 : Int) (ha0 : L_TNetwork a0) : M.law5_ModelAddresses a0 a1 = some (S.law5_ModelAddresses a0 a1) := by
  have hM := maxLen_eq
  unfold M.law5_ModelAddresses S.law5_ModelAddresses
  refine s_if (fun hb1 => ?_) (fun hb1 => ?_)
  · rfl
  · refine s_bind (s_law5_ModelAddresses_l1 a0 ha0 0) (fun y4 hey4 => ?_)
    refine s_elim (fun _ hl => ?_) (fun y6 hly6 => ?_)
    · refine s_bind (s_model_Check a0 ha0) (fun r7 her7 => ?_)
      refine s_if (fun hb3 => ?_) (fun hb3 => ?_)
      · refine s_bind (s_law5_sane) (fun r8 her8 => ?_)
        rfl
      · refine s_bind (s_law5_ModelAddresses_l2 a0 a1 ha0 0) (fun y26 hey26 => ?_)
        refine s_elim (fun _ hl => ?_) (fun y28 hly28 => ?_)
        · refine s_bind (s_law5_sane) (fun r29 her29 => ?_)
          rfl
        · rfl
    · rfl
end Nv
