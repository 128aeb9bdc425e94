/- The program's check of a router is the reference's. -/
import Derived.Test.YtmangnohekiphaaGreatNvT1
import Derived.Test.YtmangnohekiphaaGreatNvLibB
namespace Nv
open Go
theorem dflt_bool : (default : Bool) = false := rfl
theorem q_letter (c : Int) : S.scan_letter c = S.ref4_letter c := by
  unfold S.scan_letter S.ref4_letter
  rw [Bool.or_comm]
theorem q_Name (s : ByteArray) : S.scan_Name s = S.ref4_Name s := by
  have e : S.scan_Name_l1 s = S.ref4_Name_l1 s := by
    funext i
    unfold S.scan_Name_l1 S.ref4_Name_l1
    simp only [letS, q_letter, S.scan_digit]
    cases S.ref4_letter (byteAt s (i : Int)) <;> rfl
  unfold S.scan_Name S.ref4_Name
  rw [e, q_letter]
theorem q_Network (a n : Int) : S.addr_Network a n = S.ref4_Network a n := by
  unfold S.addr_Network S.ref4_Network
  simp only [letS, S.addr_Mask, S.addr_clamp, S.ref4_Mask]
  have e : (if 0 > (if 32 < n then 32 else n) then 0 else (if 32 < n then 32 else n)) = cl32 n := by unfold cl32; split <;> split <;> (try split) <;> omega
  rw [e, mk32_cl]
theorem q_Overlaps (p q : TPrefix) : S.addr_Overlaps p q = S.ref4_Overlaps p q := rfl
theorem q_Valid (p : TPrefix) : S.addr_Valid p = S.ref4_Valid p := rfl
theorem q_within (a b c : Int) : S.model_within a b c = S.ref8_within a b c := rfl
theorem q_Interface (a : TRouter) (n : ByteArray) : S.model_Interface a n = S.ref8_Interface a n := rfl
theorem q_PrefixList (a : TRouter) (n : ByteArray) : S.model_PrefixList a n = S.ref8_PrefixList a n := rfl
theorem q_RouteMap (a : TRouter) (n : ByteArray) : S.model_RouteMap a n = S.ref8_RouteMap a n := rfl
theorem q_ACL (a : TRouter) (n : ByteArray) : S.model_ACL a n = S.ref8_ACL a n := rfl
theorem q_Address (a : TRouter) (n : Int) : S.model_Address a n = S.ref8_Address a n := rfl
theorem q_checkInterfaces (a : TRouter) : S.model_checkInterfaces a = S.ref8_interfaces a.fInterfaces := by
  unfold S.model_checkInterfaces S.ref8_interfaces
  rw [runN_congr0 (g' := S.ref8_interfaces_l1 a.fInterfaces)]
  intro i hi
  unfold S.model_checkInterfaces_l1 S.ref8_interfaces_l1
  have hd : runN (S.ref8_interfaces_l2 a.fInterfaces i) (.inl ()) 0 i = _ := runN_any (β := Unit ⊕ Int) (fun k => strEq (a.fInterfaces.getD k default).fName (a.fInterfaces.getD i default).fName) (.inr 4) (.inl ()) i
  have ho : runN (S.model_checkInterfaces_l2 a i) (.inl ()) 0 i = runN (S.ref8_interfaces_l3 a.fInterfaces i) (.inl ()) 0 i := by
    refine runN_congr0 fun j hj => ?_
    unfold S.model_checkInterfaces_l2 S.ref8_interfaces_l3
    simp only [take_getD _ hj, q_Network, q_Overlaps]
  rw [hd, ho]
  have hx : decide (S.model_Interface a (a.fInterfaces.getD i default).fName < (i : Int)) = _ := idx_before (c := fun j => strEq (a.fInterfaces.getD j default).fName (a.fInterfaces.getD i default).fName) hi (strEq_rfl _)
  simp only [letS]
  rw [hx, q_Name]
  cases S.ref4_Name (a.fInterfaces.getD i default).fName with
  | false => rfl
  | true =>
    cases anyN _ i with
    | true => rfl
    | false =>
      simp only [Bool.not_true, cond_false, Sum.elim_inl, S.model_rightInterface, letS, q_within]
      generalize runN (S.ref8_interfaces_l3 a.fInterfaces i) _ 0 i = z
      generalize a.fInterfaces.getD i default = x
      simp only [dflt_bool, bne]
      cases S.ref8_within x.fLen 0 32 <;> cases S.ref8_within x.fVLAN 0 4094 <;> cases S.ref8_within x.fSide 0 2 <;> simp only [Bool.not_true, Bool.not_false, Bool.or_true, Bool.or_false, Bool.true_or, Bool.false_or, cond_true, cond_false]
      generalize (x.fLen == 0 && _) = b1
      generalize (!(x.fLen == 0) && _) = b2
      cases b1 <;> cases b2 <;> cases x.fLS <;> cases S.ref8_within x.fArea 0 255 <;> cases S.ref8_within x.fCost 1 65535 <;> cases x.fArea == 0 <;> cases x.fCost == 0 <;> rfl
theorem q_prefixLists (a : TRouter) : S.model_checkPrefixLists a = S.ref8_prefixLists a.fLists := by
  unfold S.model_checkPrefixLists S.ref8_prefixLists
  rw [runN_congr0 (g' := S.ref8_prefixLists_l1 a.fLists)]
  intro i hi
  unfold S.model_checkPrefixLists_l1 S.ref8_prefixLists_l1
  have hd : runN (S.ref8_prefixLists_l2 a.fLists i) (.inl ()) 0 i = _ := runN_any (β := Unit ⊕ Int) (fun k => strEq (a.fLists.getD k default).fName (a.fLists.getD i default).fName) (.inr 4) (.inl ()) i
  have ho : runN (S.model_checkPrefixLists_l2 a i) (.inl ()) 0 ((a.fLists.getD i default).fRules).length = runN (S.ref8_prefixLists_l3 a.fLists i) (.inl ()) 0 ((a.fLists.getD i default).fRules).length := by
    refine runN_congr0 fun j hj => ?_
    unfold S.model_checkPrefixLists_l2 S.ref8_prefixLists_l3 S.ref8_ValidPrefixRule
    generalize ((a.fLists.getD i default).fRules).getD j default = x
    simp only [letS, q_Valid]
    have e1 : decide (x.fPrefix.fLen ≤ x.fMin) = !decide (x.fMin < x.fPrefix.fLen) := by simp [← Int.not_lt]
    have e2 : decide (x.fMin ≤ x.fMax) = !decide (x.fMax < x.fMin) := by simp [← Int.not_lt]
    have e3 : decide (x.fMax ≤ 32) = !decide (x.fMax > 32) := by simp [← Int.not_lt]
    rw [e1, e2, e3]
    cases S.ref4_Valid x.fPrefix <;> cases decide (x.fMin < x.fPrefix.fLen) <;> cases decide (x.fMax < x.fMin) <;> cases decide (x.fMax > 32) <;> rfl
  rw [hd, ho]
  have hx : decide (S.model_PrefixList a (a.fLists.getD i default).fName < (i : Int)) = _ := idx_before (c := fun j => strEq (a.fLists.getD j default).fName (a.fLists.getD i default).fName) hi (strEq_rfl _)
  simp only [letS, S.model_checkList]
  rw [hx, q_Name]
  cases S.ref4_Name (a.fLists.getD i default).fName with
  | false => rfl
  | true =>
    cases anyN _ i with
    | true => rfl
    | false =>
      simp only [Bool.not_true, cond_false, Sum.elim_inl]
      cases ((((a.fLists.getD i default).fRules).length : Int) == 0) with
      | true => rfl
      | false =>
        cases (decide ((((a.fLists.getD i default).fRules).length : Int) > 16)) <;> rfl
theorem q_rightClause (x : TClause) : S.model_rightClause x = ((((S.ref8_within x.fTag (-1) 65535 && S.ref8_within x.fSetMetric (-1) 16777215) && S.ref8_within x.fSetTag (-1) 65535) && S.ref8_within x.fSetPref (-1) 1000000) && S.ref8_within x.fPrepend 0 8) := by
  unfold S.model_rightClause
  simp only [letS, q_within, dflt_bool]
  cases S.ref8_within x.fTag (-1) 65535 <;> cases S.ref8_within x.fSetMetric (-1) 16777215 <;> cases S.ref8_within x.fSetTag (-1) 65535 <;> cases S.ref8_within x.fSetPref (-1) 1000000 <;> cases S.ref8_within x.fPrepend 0 8 <;> rfl
theorem q_routeMaps (a : TRouter) : S.model_checkRouteMaps a = S.ref8_routeMaps a := by
  unfold S.model_checkRouteMaps S.ref8_routeMaps
  rw [runN_congr0 (g' := S.ref8_routeMaps_l1 a)]
  intro i hi
  unfold S.model_checkRouteMaps_l1 S.ref8_routeMaps_l1
  have hd : runN (S.ref8_routeMaps_l2 a i) (.inl ()) 0 i = _ := runN_any (β := Unit ⊕ Int) (fun k => strEq (a.fMaps.getD k default).fName (a.fMaps.getD i default).fName) (.inr 4) (.inl ()) i
  have ho : runN (S.model_checkRouteMaps_l2 a i) (.inl ()) 0 ((a.fMaps.getD i default).fClauses).length = runN (S.ref8_routeMaps_l3 a i) (.inl ()) 0 ((a.fMaps.getD i default).fClauses).length := by
    refine runN_congr0 fun j hj => ?_
    unfold S.model_checkRouteMaps_l2 S.ref8_routeMaps_l3
    generalize ((a.fMaps.getD i default).fClauses).getD j default = x
    simp only [letS, dflt_bool]
    rw [q_PrefixList, q_rightClause]
    generalize (!strEq x.fList (⟨#[]⟩ : ByteArray) && _ : Bool) = b
    cases b <;> cases S.ref8_within x.fTag (-1) 65535 <;> cases S.ref8_within x.fSetMetric (-1) 16777215 <;> cases S.ref8_within x.fSetTag (-1) 65535 <;> cases S.ref8_within x.fSetPref (-1) 1000000 <;> cases S.ref8_within x.fPrepend 0 8 <;> rfl
  rw [hd, ho]
  have hx : decide (S.model_RouteMap a (a.fMaps.getD i default).fName < (i : Int)) = _ := idx_before (c := fun j => strEq (a.fMaps.getD j default).fName (a.fMaps.getD i default).fName) hi (strEq_rfl _)
  simp only [letS, S.model_checkList]
  rw [hx, q_Name]
  cases S.ref4_Name (a.fMaps.getD i default).fName with
  | false => rfl
  | true =>
    cases anyN _ i with
    | true => rfl
    | false =>
      simp only [Bool.not_true, cond_false, Sum.elim_inl]
      cases ((((a.fMaps.getD i default).fClauses).length : Int) == 0) with
      | true => rfl
      | false =>
        cases (decide ((((a.fMaps.getD i default).fClauses).length : Int) > 8)) <;> rfl
theorem q_rule (x : TRule) : S.model_rightRule x = S.ref8_ValidRule x := by
  unfold S.model_rightRule S.ref8_ValidRule
  have e (p : TPortRange) : S.model_rightPorts p = S.ref8_ports p := rfl
  simp only [letS, q_within, dflt_bool, e, S.ref8_all]
  generalize (bitD .and .u32 x.fSrc.fAddr x.fSrc.fMask != 0) = b1
  generalize (bitD .and .u32 x.fDst.fAddr x.fDst.fMask != 0) = b2
  generalize (x.fProto == 6 || x.fProto == 17) = b3
  generalize ((x.fSrcPorts.fLo == 0) && _) = b4
  generalize ((x.fDstPorts.fLo == 0) && _) = b5
  cases S.ref8_within x.fProto (-1) 255 <;> cases b1 <;> cases b2 <;> cases S.ref8_ports x.fSrcPorts <;> cases S.ref8_ports x.fDstPorts <;> cases b3 <;> cases b4 <;> cases b5 <;> rfl
theorem q_accessLists (a : TRouter) : S.model_checkACLs a = S.ref8_accessLists a.fACLs := by
  unfold S.model_checkACLs S.ref8_accessLists
  rw [runN_congr0 (g' := S.ref8_accessLists_l1 a.fACLs)]
  intro i hi
  unfold S.model_checkACLs_l1 S.ref8_accessLists_l1
  have hd : runN (S.ref8_accessLists_l2 a.fACLs i) (.inl ()) 0 i = _ := runN_any (β := Unit ⊕ Int) (fun k => strEq (a.fACLs.getD k default).fName (a.fACLs.getD i default).fName) (.inr 4) (.inl ()) i
  have ho : runN (S.model_checkACLs_l2 a i) (.inl ()) 0 ((a.fACLs.getD i default).fRules).length = runN (S.ref8_accessLists_l3 a.fACLs i) (.inl ()) 0 ((a.fACLs.getD i default).fRules).length := by
    refine runN_congr0 fun j hj => ?_
    unfold S.model_checkACLs_l2 S.ref8_accessLists_l3
    simp only [letS, q_rule]
  rw [hd, ho]
  have hx : decide (S.model_ACL a (a.fACLs.getD i default).fName < (i : Int)) = _ := idx_before (c := fun j => strEq (a.fACLs.getD j default).fName (a.fACLs.getD i default).fName) hi (strEq_rfl _)
  simp only [letS, S.model_checkList]
  rw [hx, q_Name]
  cases S.ref4_Name (a.fACLs.getD i default).fName with
  | false => rfl
  | true =>
    cases anyN _ i with
    | true => rfl
    | false =>
      simp only [Bool.not_true, cond_false, Sum.elim_inl]
      cases ((((a.fACLs.getD i default).fRules).length : Int) == 0) with
      | true => rfl
      | false =>
        cases (decide ((((a.fACLs.getD i default).fRules).length : Int) > 16)) <;> rfl
theorem q_translations (a : TRouter) : S.model_checkNAT a = S.ref8_translations a := by
  unfold S.model_checkNAT S.ref8_translations
  rw [runN_congr0 (g' := S.ref8_translations_l1 a)]
  intro i hi
  unfold S.model_checkNAT_l1 S.ref8_translations_l1 S.ref8_translations_k1 S.model_rightTranslation
  generalize a.fNAT.getD i default = x
  simp only [letS, dflt_bool, beq_self_eq_true, strEq_rfl, Bool.true_and, Bool.and_true, bne]
  rw [q_ACL, q_within, q_within]
  cases x.fKind == 1 with
  | true =>
    simp only [cond_true]
    cases x.fInside == 0 <;> cases x.fOutside == 0 <;> simp only [Bool.not_true, Bool.not_false, Bool.true_and, Bool.false_and, Bool.and_true, Bool.and_false]
  | false =>
    simp only [cond_false]
    cases h2 : x.fKind == 2 with
    | true =>
      simp only [cond_true]
      cases x.fLo == 0 <;> cases decide (x.fLo ≤ x.fHi) <;> cases decide (wr .u32 (x.fHi - x.fLo) < 8) <;> simp only [Bool.not_true, Bool.not_false, Bool.true_and, Bool.false_and, Bool.and_true, Bool.and_false]
    | false =>
      simp only [cond_false]
      cases x.fKind == 3 with
      | true => rfl
      | false => rfl
theorem q_filters (a : TRouter) : S.model_checkFilters a = S.ref8_filters a := rfl
theorem dflt_int : (default : Int) = 0 := rfl
theorem ge_not_lt (x : Int) : decide (x ≥ 0) = !decide (x < 0) := by
  by_cases h : x < 0
  · have : ¬ x ≥ 0 := by omega
    simp [h, this]
  · have : x ≥ 0 := by omega
    simp [h, this]
theorem q_ways (x : TStaticRoute) : (runT (S.model_rightStatic_l1 x) (fun s1 => s1) 0 3 (0) == 1) = (bif x.fNext == 0 then (bif strEq x.fIface (⟨#[]⟩ : ByteArray) then x.fDiscard else !x.fDiscard) else (strEq x.fIface (⟨#[]⟩ : ByteArray) && !x.fDiscard)) := by
  simp only [runT, S.model_rightStatic_l1, S.model_rightStatic_k1, List.getD_cons_zero, List.getD_cons_succ, bne]
  cases x.fNext == 0 <;> cases strEq x.fIface (⟨#[]⟩ : ByteArray) <;> cases x.fDiscard <;> rfl
theorem q_rightStatic (a : TRouter) (x : TStaticRoute) : S.model_rightStatic a x = ((((S.ref4_Valid x.fPrefix && (bif x.fNext == 0 then (bif strEq x.fIface (⟨#[]⟩ : ByteArray) then x.fDiscard else !x.fDiscard) else (strEq x.fIface (⟨#[]⟩ : ByteArray) && !x.fDiscard))) && ((x.fNext == 0) || decide (S.ref8_Address a x.fNext < 0))) && S.ref8_within x.fAdmin 1 255) && S.ref8_within x.fTag 0 65535) := by
  unfold S.model_rightStatic
  simp only [letS, dflt_bool, dflt_int]
  rw [q_ways, q_Address, q_Valid, q_within, q_within]
  generalize (bif x.fNext == 0 then (bif strEq x.fIface (⟨#[]⟩ : ByteArray) then x.fDiscard else !x.fDiscard) else (strEq x.fIface (⟨#[]⟩ : ByteArray) && !x.fDiscard)) = w
  cases S.ref4_Valid x.fPrefix <;> cases w <;> cases x.fNext == 0 <;> cases S.ref8_within x.fAdmin 1 255 <;> cases S.ref8_within x.fTag 0 65535 <;> simp
theorem q_statics (a : TRouter) : S.model_checkStatics a = S.ref8_statics a := by
  unfold S.model_checkStatics S.ref8_statics
  rw [runN_congr0 (g' := S.ref8_statics_l1 a)]
  intro i hi
  have ho : runN (S.model_checkStatics_l2 a i) (.inl ()) 0 i = runN (S.ref8_statics_l2 a i) (.inl ()) 0 i := runN_congr0 fun j hj => by
    unfold S.model_checkStatics_l2 S.ref8_statics_l2
    simp only [take_getD _ hj]
  unfold S.model_checkStatics_l1 S.ref8_statics_l1 S.ref8_statics_k1 S.ref8_statics_k2 S.ref8_statics_k3 S.ref8_statics_k4 S.model_checkStatics_k1
  rw [ho]
  generalize runN (S.ref8_statics_l2 a i) (.inl ()) 0 i = z
  generalize a.fStatics.getD i default = x
  have er : S.model_rightStatic a (⟨x.fPrefix, x.fNext, x.fIface, x.fDiscard, x.fAdmin, x.fTag⟩ : TStaticRoute) = _ := q_rightStatic a x
  simp only [letS, dflt_bool, dflt_int]
  rw [er, q_Interface]
  simp only [ge_not_lt, bne]
  have w1 : wr .i64 1 = 1 := rfl
  have w2 : wr .i64 2 = 2 := rfl
  have w3 : wr .i64 3 = 3 := rfl
  cases x.fNext == 0 <;> cases strEq x.fIface (⟨#[]⟩ : ByteArray) <;> cases x.fDiscard <;> cases S.ref4_Valid x.fPrefix <;> cases S.ref8_within x.fAdmin 1 255 <;> cases S.ref8_within x.fTag 0 65535 <;> simp [w1, w2, w3]
theorem q_redist (a : TRouter) (l : List TRedist) (into least most types : Int) (ht : types = bif into == 3 then 2 else 0) : S.model_checkRedist a l into least most types = S.ref8_redistributions a l into least most := by
  unfold S.model_checkRedist S.ref8_redistributions
  rw [runN_congr0 (g' := S.ref8_redistributions_l1 a l into least most)]
  intro i hi
  have ho : runN (S.model_checkRedist_l2 l i) (.inl ()) 0 i = runN (S.ref8_redistributions_l2 l i) (.inl ()) 0 i := runN_congr0 fun j hj => by
    unfold S.model_checkRedist_l2 S.ref8_redistributions_l2
    simp only [take_getD _ hj]
  unfold S.model_checkRedist_l1 S.ref8_redistributions_l1
  rw [ho]
  generalize runN (S.ref8_redistributions_l2 l i) (.inl ()) 0 i = z
  generalize l.getD i default = x
  have ew : S.model_within x.fType (if types < 1 then types else 1) types = !((((into == 3) && (x.fType != 1)) && (x.fType != 2)) || ((into != 3) && (x.fType != 0))) := by
    subst ht
    unfold S.model_within
    rw [Bool.eq_iff_iff]
    cases h : into == 3 <;> simp [bne, h] <;> omega
  simp only [letS, dflt_bool]
  rw [q_RouteMap, ew, q_within, q_within, q_within]
  generalize ((((into == 3) && (x.fType != 1)) && (x.fType != 2)) || ((into != 3) && (x.fType != 0))) = t
  cases S.ref8_within x.fFrom 1 5 <;> cases x.fFrom == into <;> cases S.ref8_within x.fMetric least most <;> cases S.ref8_within x.fTag 0 65535 <;> cases t <;> rfl
theorem q_linkState (a : TRouter) : S.model_checkLinkState a = S.ref8_linkState a := by
  unfold S.model_checkLinkState S.ref8_linkState
  rw [q_redist a a.fLS.fRedist 3 0 16777215 2 rfl, runN_congr0 (g' := S.ref8_linkState_l1 a)]
  · rfl
  intro i hi
  have ho : runN (S.model_checkLinkState_l2 a i) (.inl ()) 0 i = runN (S.ref8_linkState_l2 a i) (.inl ()) 0 i := runN_congr0 fun j hj => by
    unfold S.model_checkLinkState_l2 S.ref8_linkState_l2
    simp only [take_getD _ hj, q_Overlaps]
  unfold S.model_checkLinkState_l1 S.ref8_linkState_l1
  rw [ho]
  rfl
theorem q_distance (a : TRouter) : S.model_checkDistanceVector a = S.ref8_distance a := by
  unfold S.model_checkDistanceVector S.ref8_distance
  rw [q_redist a a.fDV.fRedist 4 1 15 0 rfl]
  rfl
theorem q_neighbors (a : TRouter) : S.model_checkNeighbors a = S.ref8_neighbors a := by
  unfold S.model_checkNeighbors S.ref8_neighbors
  rw [runN_congr0 (g' := S.ref8_neighbors_l1 a)]
  intro i hi
  have ho : runN (S.model_checkNeighbors_l2 a i) (.inl ()) 0 i = runN (S.ref8_neighbors_l2 a i) (.inl ()) 0 i := runN_congr0 fun j hj => by
    unfold S.model_checkNeighbors_l2 S.ref8_neighbors_l2
    simp only [take_getD _ hj]
  unfold S.model_checkNeighbors_l1 S.ref8_neighbors_l1
  rw [ho]
  rfl
theorem q_origins (a : TPathVector) : S.model_checkOrigins a = S.ref8_originations a := by
  unfold S.model_checkOrigins S.ref8_originations
  rw [runN_congr0 (g := S.model_checkOrigins_l1 a) (g' := S.ref8_originations_l1 a), runN_congr0 (g := S.model_checkOrigins_l2 a) (g' := S.ref8_originations_l3 a), runN_congr0 (g := S.model_checkOrigins_l4 a) (g' := S.ref8_originations_l5 a)]
  · intro i hi
    have ho : runN (S.model_checkOrigins_l5 a i) (.inl ()) 0 i = runN (S.ref8_originations_l6 a i) (.inl ()) 0 i := runN_congr0 fun j hj => by
      unfold S.model_checkOrigins_l5 S.ref8_originations_l6
      simp only [take_getD _ hj]
    unfold S.model_checkOrigins_l4 S.ref8_originations_l5
    rw [ho]
    rfl
  · intro i hi
    have ho : runN (S.model_checkOrigins_l3 a i) (.inl ()) 0 i = runN (S.ref8_originations_l4 a i) (.inl ()) 0 i := runN_congr0 fun j hj => by
      unfold S.model_checkOrigins_l3 S.ref8_originations_l4
      simp only [take_getD _ hj]
    unfold S.model_checkOrigins_l2 S.ref8_originations_l3
    rw [ho]
    rfl
  · intro i hi
    have hd : runN (S.ref8_originations_l2 a i) (.inl ()) 0 i = _ := runN_any (β := Unit ⊕ Int) (fun k => ((a.fNetworks.getD k default).fAddr == (a.fNetworks.getD i default).fAddr) && (((a.fNetworks.getD k default).fLen == (a.fNetworks.getD i default).fLen) && true)) (.inr 4) (.inl ()) i
    have hc : S.slices_Contains_api_Prefix_api_Prefix ((a.fNetworks.drop 0).take (i - 0)) (a.fNetworks.getD i default) = anyN (fun k => ((a.fNetworks.getD k default).fAddr == (a.fNetworks.getD i default).fAddr) && (((a.fNetworks.getD k default).fLen == (a.fNetworks.getD i default).fLen) && true)) i := by
      have hl : ((a.fNetworks.drop 0).take (i - 0)).length = i := by simp; omega
      have h1 := idx_ge (fun k => ((a.fNetworks.getD i default).fAddr == (((a.fNetworks.drop 0).take (i - 0)).getD k default).fAddr) && (((a.fNetworks.getD i default).fLen == (((a.fNetworks.drop 0).take (i - 0)).getD k default).fLen) && true)) i
      refine Eq.trans ?_ (h1.trans (anyN_congr fun j hj => ?_))
      · unfold S.slices_Contains_api_Prefix_api_Prefix S.slices_Index_api_Prefix_api_Prefix
        rw [hl]
        rfl
      · rw [take_getD _ hj, BEq.comm (a := (a.fNetworks.getD i default).fAddr), BEq.comm (a := (a.fNetworks.getD i default).fLen)]
    unfold S.model_checkOrigins_l1 S.ref8_originations_l1
    rw [hd, hc]
    simp only [letS, q_Valid]
    cases S.ref4_Valid (a.fNetworks.getD i default) with
    | false => rfl
    | true =>
      cases anyN _ i <;> rfl
theorem q_pathVector (a : TRouter) (hs : a.fPV.fNeighbors.length ≤ 100 ∧ a.fPV.fNetworks.length ≤ 100 ∧ a.fPV.fAggregates.length ≤ 100 ∧ a.fPV.fConditions.length ≤ 100 ∧ a.fPV.fRedist.length ≤ 100) : S.model_checkPathVector a = S.ref8_pathVector a := by
  unfold S.model_checkPathVector S.ref8_pathVector
  rw [q_neighbors, q_origins, q_redist a a.fPV.fRedist 5 0 16777215 0 rfl]
  have w (x : Int) (h1 : 0 ≤ x) (h2 : x ≤ 1000) : wr .i64 x = x := by unfold wr; exact IntWalk.i64_in _ (by omega)
  rw [w ((a.fPV.fNeighbors.length : Int) + (a.fPV.fNetworks.length : Int)) (by omega) (by omega)]
  rw [w ((a.fPV.fNeighbors.length : Int) + (a.fPV.fNetworks.length : Int) + (a.fPV.fAggregates.length : Int)) (by omega) (by omega)]
  rw [w ((a.fPV.fNeighbors.length : Int) + (a.fPV.fNetworks.length : Int) + (a.fPV.fAggregates.length : Int) + (a.fPV.fConditions.length : Int)) (by omega) (by omega)]
  rw [w ((a.fPV.fNeighbors.length : Int) + (a.fPV.fNetworks.length : Int) + (a.fPV.fAggregates.length : Int) + (a.fPV.fConditions.length : Int) + (a.fPV.fRedist.length : Int)) (by omega) (by omega)]
  have e : (decide ((((a.fPV.fNeighbors.length : Int) + (a.fPV.fNetworks.length : Int) + (a.fPV.fAggregates.length : Int)) + (a.fPV.fConditions.length : Int)) + (a.fPV.fRedist.length : Int) > 0)) =
      ((((decide ((a.fPV.fNeighbors.length : Int) > 0) || decide ((a.fPV.fNetworks.length : Int) > 0)) || decide ((a.fPV.fAggregates.length : Int) > 0)) || decide ((a.fPV.fConditions.length : Int) > 0)) || decide ((a.fPV.fRedist.length : Int) > 0)) := by
    simp only [← Bool.decide_or]
    congr 1
    simp only [eq_iff_iff]
    omega
  rw [e]
  simp only [Bool.or_assoc]
  rfl
theorem q_CheckRouter (a : TRouter) (hs : a.fPV.fNeighbors.length ≤ 100 ∧ a.fPV.fNetworks.length ≤ 100 ∧ a.fPV.fAggregates.length ≤ 100 ∧ a.fPV.fConditions.length ≤ 100 ∧ a.fPV.fRedist.length ≤ 100) : S.model_CheckRouter a = S.ref8_CheckRouter a := by
  unfold S.model_CheckRouter S.ref8_CheckRouter
  simp only [letS]
  rw [q_Name, q_within, q_checkInterfaces, q_prefixLists, q_routeMaps, q_accessLists, q_translations, q_filters, q_statics, q_linkState, q_distance, q_pathVector a hs]
  have h := runN_fnz [S.ref8_interfaces a.fInterfaces, S.ref8_prefixLists a.fLists, S.ref8_routeMaps a, S.ref8_accessLists a.fACLs, S.ref8_translations a, S.ref8_filters a, S.ref8_statics a, S.ref8_linkState a, S.ref8_distance a, S.ref8_pathVector a]
  cases S.ref4_Name a.fName with
  | false => rfl
  | true =>
    cases S.ref8_within a.fAS 0 65535 with
    | false => rfl
    | true => exact h.symm
end Nv
