/- Total forms of the mirrors. -/
import Derived.Test.YtghjgndlgliieaaNvD1
import Derived.Test.YtghjgndlgliieaaNvLibB
import Derived.Test.YtghjgndlgliieaaNvQ0
set_option maxRecDepth 100000
namespace Nv
open Go
def L_TInterface (x : TInterface) : Prop := (x.fName.size ≤ maxLen) ∧ (x.fIn.size ≤ maxLen) ∧ (x.fOut.size ≤ maxLen)
theorem L_TInterface.fName {x : TInterface} (h : L_TInterface x) : x.fName.size ≤ maxLen := h.1
theorem L_TInterface.fIn {x : TInterface} (h : L_TInterface x) : x.fIn.size ≤ maxLen := h.2.1
theorem L_TInterface.fOut {x : TInterface} (h : L_TInterface x) : x.fOut.size ≤ maxLen := h.2.2
theorem L_TInterface.dflt : L_TInterface default := ⟨(Nat.zero_le _), (Nat.zero_le _), (Nat.zero_le _)⟩
def L_TPrefixList (x : TPrefixList) : Prop := (x.fName.size ≤ maxLen) ∧ (x.fRules.length ≤ maxLen)
theorem L_TPrefixList.fName {x : TPrefixList} (h : L_TPrefixList x) : x.fName.size ≤ maxLen := h.1
theorem L_TPrefixList.fRules {x : TPrefixList} (h : L_TPrefixList x) : x.fRules.length ≤ maxLen := h.2
theorem L_TPrefixList.dflt : L_TPrefixList default := ⟨(Nat.zero_le _), (Nat.zero_le _)⟩
def L_TClause (x : TClause) : Prop := (x.fList.size ≤ maxLen)
theorem L_TClause.fList {x : TClause} (h : L_TClause x) : x.fList.size ≤ maxLen := h
theorem L_TClause.dflt : L_TClause default := (Nat.zero_le _)
def L_TRouteMap (x : TRouteMap) : Prop := (x.fName.size ≤ maxLen) ∧ (LL L_TClause x.fClauses)
theorem L_TRouteMap.fName {x : TRouteMap} (h : L_TRouteMap x) : x.fName.size ≤ maxLen := h.1
theorem L_TRouteMap.fClauses {x : TRouteMap} (h : L_TRouteMap x) : LL L_TClause x.fClauses := h.2
theorem L_TRouteMap.dflt : L_TRouteMap default := ⟨(Nat.zero_le _), ⟨Nat.zero_le _, fun _ h => absurd h List.not_mem_nil⟩⟩
def L_TACL (x : TACL) : Prop := (x.fName.size ≤ maxLen) ∧ (x.fRules.length ≤ maxLen)
theorem L_TACL.fName {x : TACL} (h : L_TACL x) : x.fName.size ≤ maxLen := h.1
theorem L_TACL.fRules {x : TACL} (h : L_TACL x) : x.fRules.length ≤ maxLen := h.2
theorem L_TACL.dflt : L_TACL default := ⟨(Nat.zero_le _), (Nat.zero_le _)⟩
def L_TTranslation (x : TTranslation) : Prop := (x.fList.size ≤ maxLen)
theorem L_TTranslation.fList {x : TTranslation} (h : L_TTranslation x) : x.fList.size ≤ maxLen := h
theorem L_TTranslation.dflt : L_TTranslation default := (Nat.zero_le _)
def L_TStaticRoute (x : TStaticRoute) : Prop := (x.fIface.size ≤ maxLen)
theorem L_TStaticRoute.fIface {x : TStaticRoute} (h : L_TStaticRoute x) : x.fIface.size ≤ maxLen := h
theorem L_TStaticRoute.dflt : L_TStaticRoute default := (Nat.zero_le _)
def L_TRedist (x : TRedist) : Prop := (x.fMap.size ≤ maxLen)
theorem L_TRedist.fMap {x : TRedist} (h : L_TRedist x) : x.fMap.size ≤ maxLen := h
theorem L_TRedist.dflt : L_TRedist default := (Nat.zero_le _)
def L_TLinkState (x : TLinkState) : Prop := (x.fRanges.length ≤ maxLen) ∧ (LL L_TRedist x.fRedist)
theorem L_TLinkState.fRanges {x : TLinkState} (h : L_TLinkState x) : x.fRanges.length ≤ maxLen := h.1
theorem L_TLinkState.fRedist {x : TLinkState} (h : L_TLinkState x) : LL L_TRedist x.fRedist := h.2
theorem L_TLinkState.dflt : L_TLinkState default := ⟨(Nat.zero_le _), ⟨Nat.zero_le _, fun _ h => absurd h List.not_mem_nil⟩⟩
def L_TDistanceVector (x : TDistanceVector) : Prop := (x.fIn.size ≤ maxLen) ∧ (x.fOut.size ≤ maxLen) ∧ (LL L_TRedist x.fRedist)
theorem L_TDistanceVector.fIn {x : TDistanceVector} (h : L_TDistanceVector x) : x.fIn.size ≤ maxLen := h.1
theorem L_TDistanceVector.fOut {x : TDistanceVector} (h : L_TDistanceVector x) : x.fOut.size ≤ maxLen := h.2.1
theorem L_TDistanceVector.fRedist {x : TDistanceVector} (h : L_TDistanceVector x) : LL L_TRedist x.fRedist := h.2.2
theorem L_TDistanceVector.dflt : L_TDistanceVector default := ⟨(Nat.zero_le _), (Nat.zero_le _), ⟨Nat.zero_le _, fun _ h => absurd h List.not_mem_nil⟩⟩
def L_TNeighbor (x : TNeighbor) : Prop := (x.fIn.size ≤ maxLen) ∧ (x.fOut.size ≤ maxLen)
theorem L_TNeighbor.fIn {x : TNeighbor} (h : L_TNeighbor x) : x.fIn.size ≤ maxLen := h.1
theorem L_TNeighbor.fOut {x : TNeighbor} (h : L_TNeighbor x) : x.fOut.size ≤ maxLen := h.2
theorem L_TNeighbor.dflt : L_TNeighbor default := ⟨(Nat.zero_le _), (Nat.zero_le _)⟩
def L_TPathVector (x : TPathVector) : Prop := (LL L_TNeighbor x.fNeighbors) ∧ (x.fNetworks.length ≤ maxLen) ∧ (x.fAggregates.length ≤ maxLen) ∧ (x.fConditions.length ≤ maxLen) ∧ (LL L_TRedist x.fRedist)
theorem L_TPathVector.fNeighbors {x : TPathVector} (h : L_TPathVector x) : LL L_TNeighbor x.fNeighbors := h.1
theorem L_TPathVector.fNetworks {x : TPathVector} (h : L_TPathVector x) : x.fNetworks.length ≤ maxLen := h.2.1
theorem L_TPathVector.fAggregates {x : TPathVector} (h : L_TPathVector x) : x.fAggregates.length ≤ maxLen := h.2.2.1
theorem L_TPathVector.fConditions {x : TPathVector} (h : L_TPathVector x) : x.fConditions.length ≤ maxLen := h.2.2.2.1
theorem L_TPathVector.fRedist {x : TPathVector} (h : L_TPathVector x) : LL L_TRedist x.fRedist := h.2.2.2.2
theorem L_TPathVector.dflt : L_TPathVector default := ⟨⟨Nat.zero_le _, fun _ h => absurd h List.not_mem_nil⟩, (Nat.zero_le _), (Nat.zero_le _), (Nat.zero_le _), ⟨Nat.zero_le _, fun _ h => absurd h List.not_mem_nil⟩⟩
def L_TRouter (x : TRouter) : Prop := (x.fName.size ≤ maxLen) ∧ (LL L_TInterface x.fInterfaces) ∧ (LL L_TPrefixList x.fLists) ∧ (LL L_TRouteMap x.fMaps) ∧ (LL L_TACL x.fACLs) ∧ (LL L_TTranslation x.fNAT) ∧ (LL L_TStaticRoute x.fStatics) ∧ (L_TLinkState x.fLS) ∧ (L_TDistanceVector x.fDV) ∧ (L_TPathVector x.fPV)
theorem L_TRouter.fName {x : TRouter} (h : L_TRouter x) : x.fName.size ≤ maxLen := h.1
theorem L_TRouter.fInterfaces {x : TRouter} (h : L_TRouter x) : LL L_TInterface x.fInterfaces := h.2.1
theorem L_TRouter.fLists {x : TRouter} (h : L_TRouter x) : LL L_TPrefixList x.fLists := h.2.2.1
theorem L_TRouter.fMaps {x : TRouter} (h : L_TRouter x) : LL L_TRouteMap x.fMaps := h.2.2.2.1
theorem L_TRouter.fACLs {x : TRouter} (h : L_TRouter x) : LL L_TACL x.fACLs := h.2.2.2.2.1
theorem L_TRouter.fNAT {x : TRouter} (h : L_TRouter x) : LL L_TTranslation x.fNAT := h.2.2.2.2.2.1
theorem L_TRouter.fStatics {x : TRouter} (h : L_TRouter x) : LL L_TStaticRoute x.fStatics := h.2.2.2.2.2.2.1
theorem L_TRouter.fLS {x : TRouter} (h : L_TRouter x) : L_TLinkState x.fLS := h.2.2.2.2.2.2.2.1
theorem L_TRouter.fDV {x : TRouter} (h : L_TRouter x) : L_TDistanceVector x.fDV := h.2.2.2.2.2.2.2.2.1
theorem L_TRouter.fPV {x : TRouter} (h : L_TRouter x) : L_TPathVector x.fPV := h.2.2.2.2.2.2.2.2.2
theorem L_TRouter.dflt : L_TRouter default := ⟨(Nat.zero_le _), ⟨Nat.zero_le _, fun _ h => absurd h List.not_mem_nil⟩, ⟨Nat.zero_le _, fun _ h => absurd h List.not_mem_nil⟩, ⟨Nat.zero_le _, fun _ h => absurd h List.not_mem_nil⟩, ⟨Nat.zero_le _, fun _ h => absurd h List.not_mem_nil⟩, ⟨Nat.zero_le _, fun _ h => absurd h List.not_mem_nil⟩, ⟨Nat.zero_le _, fun _ h => absurd h List.not_mem_nil⟩, L_TLinkState.dflt, L_TDistanceVector.dflt, L_TPathVector.dflt⟩
def L_TRoute (x : TRoute) : Prop := (x.fPath.length ≤ maxLen) ∧ (x.fHops.length ≤ maxLen)
theorem L_TRoute.fPath {x : TRoute} (h : L_TRoute x) : x.fPath.length ≤ maxLen := h.1
theorem L_TRoute.fHops {x : TRoute} (h : L_TRoute x) : x.fHops.length ≤ maxLen := h.2
theorem L_TRoute.dflt : L_TRoute default := ⟨(Nat.zero_le _), (Nat.zero_le _)⟩
noncomputable def S.law5_Small_l1 (a0 : TRouter) (i1 : Nat) : Option (Unit ⊕ Bool) :=
  bif decide ((((a0.fLists.getD i1 default).fRules).length : Int) > 20) then (some (.inr false)) else none
theorem s_law5_Small_l1 (a0 : TRouter) (ha0 : L_TRouter a0) (i0 : Nat) : loopM (M.law5_Small_l1 a0) (i0 : Int) = some (runN (S.law5_Small_l1 a0) (.inl ()) i0 (a0.fLists.length - i0)) := by
  have hM := maxLen_eq
  have hni1 : a0.fLists.length ≤ maxLen := (L_TRouter.fLists ha0).1
  refine loop_runN (n := a0.fLists.length) (fun i1 hi1 => ?_) (fun m hm => ?_) i0
  · unfold M.law5_Small_l1 S.law5_Small_l1
    try simp only [Int.toNat_natCast]
    refine s_then (dt (by omega)) ?_
    refine s_gd (all_c (dt (by omega)) (all_c (dt (by omega)) all_n)) ?_
    refine s_ifN (fun hb2 => ?_) (fun hb2 => ?_)
    · exact s_out
    · exact s_up (by omega)
  · unfold M.law5_Small_l1
    try simp only [Int.toNat_natCast]
    exact s_else (decide_eq_false (by omega)) rfl
noncomputable def S.law5_Small_l2 (a0 : TRouter) (i6 : Nat) : Option (Unit ⊕ Bool) :=
  bif decide ((((a0.fMaps.getD i6 default).fClauses).length : Int) > 12) then (some (.inr false)) else none
theorem s_law5_Small_l2 (a0 : TRouter) (ha0 : L_TRouter a0) (i0 : Nat) : loopM (M.law5_Small_l2 a0) (i0 : Int) = some (runN (S.law5_Small_l2 a0) (.inl ()) i0 (a0.fMaps.length - i0)) := by
  have hM := maxLen_eq
  have hni6 : a0.fMaps.length ≤ maxLen := (L_TRouter.fMaps ha0).1
  refine loop_runN (n := a0.fMaps.length) (fun i6 hi6 => ?_) (fun m hm => ?_) i0
  · unfold M.law5_Small_l2 S.law5_Small_l2
    try simp only [Int.toNat_natCast]
    refine s_then (dt (by omega)) ?_
    refine s_gd (all_c (dt (by omega)) (all_c (dt (by omega)) all_n)) ?_
    refine s_ifN (fun hb3 => ?_) (fun hb3 => ?_)
    · exact s_out
    · exact s_up (by omega)
  · unfold M.law5_Small_l2
    try simp only [Int.toNat_natCast]
    exact s_else (decide_eq_false (by omega)) rfl
noncomputable def S.law5_Small_l3 (a0 : TRouter) (i11 : Nat) : Option (Unit ⊕ Bool) :=
  bif decide ((((a0.fACLs.getD i11 default).fRules).length : Int) > 20) then (some (.inr false)) else none
theorem s_law5_Small_l3 (a0 : TRouter) (ha0 : L_TRouter a0) (i0 : Nat) : loopM (M.law5_Small_l3 a0) (i0 : Int) = some (runN (S.law5_Small_l3 a0) (.inl ()) i0 (a0.fACLs.length - i0)) := by
  have hM := maxLen_eq
  have hni11 : a0.fACLs.length ≤ maxLen := (L_TRouter.fACLs ha0).1
  refine loop_runN (n := a0.fACLs.length) (fun i11 hi11 => ?_) (fun m hm => ?_) i0
  · unfold M.law5_Small_l3 S.law5_Small_l3
    try simp only [Int.toNat_natCast]
    refine s_then (dt (by omega)) ?_
    refine s_gd (all_c (dt (by omega)) (all_c (dt (by omega)) all_n)) ?_
    refine s_ifN (fun hb4 => ?_) (fun hb4 => ?_)
    · exact s_out
    · exact s_up (by omega)
  · unfold M.law5_Small_l3
    try simp only [Int.toNat_natCast]
    exact s_else (decide_eq_false (by omega)) rfl
noncomputable def S.law5_Small (a0 : TRouter) : Bool :=
  bif (((((((((((((decide ((a0.fInterfaces.length : Int) > 12)) || (decide ((a0.fLists.length : Int) > 12))) || (decide ((a0.fMaps.length : Int) > 12))) || (decide ((a0.fACLs.length : Int) > 12))) || (decide ((a0.fNAT.length : Int) > 12))) || (decide ((a0.fStatics.length : Int) > 20))) || (decide ((a0.fLS.fRanges.length : Int) > 8))) || (decide ((a0.fLS.fRedist.length : Int) > 8))) || (decide ((a0.fDV.fRedist.length : Int) > 8))) || (decide ((a0.fPV.fRedist.length : Int) > 8))) || (decide ((a0.fPV.fNeighbors.length : Int) > 12))) || (decide ((a0.fPV.fNetworks.length : Int) > 12))) || (decide ((a0.fPV.fAggregates.length : Int) > 12))) || (decide ((a0.fPV.fConditions.length : Int) > 12)) then false else (letS (runN (S.law5_Small_l1 a0) (.inl ()) 0 a0.fLists.length) (fun y3 => Sum.elim (fun _ => letS (runN (S.law5_Small_l2 a0) (.inl ()) 0 a0.fMaps.length) (fun y8 => Sum.elim (fun _ => letS (runN (S.law5_Small_l3 a0) (.inl ()) 0 a0.fACLs.length) (fun y13 => Sum.elim (fun _ => true) (fun y15 => y15) y13)) (fun y10 => y10) y8)) (fun y5 => y5) y3))
theorem s_law5_Small (a0 : TRouter) (ha0 : L_TRouter a0) : M.law5_Small a0 = some (S.law5_Small a0) := by
  have hM := maxLen_eq
  unfold M.law5_Small S.law5_Small
  refine s_if (fun hb1 => ?_) (fun hb1 => ?_)
  · rfl
  · refine s_bind (s_law5_Small_l1 a0 ha0 0) (fun y3 hey3 => ?_)
    refine s_elim (fun _ hl => ?_) (fun y5 hly5 => ?_)
    · refine s_bind (s_law5_Small_l2 a0 ha0 0) (fun y8 hey8 => ?_)
      refine s_elim (fun _ hl => ?_) (fun y10 hly10 => ?_)
      · refine s_bind (s_law5_Small_l3 a0 ha0 0) (fun y13 hey13 => ?_)
        refine s_elim (fun _ hl => ?_) (fun y15 hly15 => ?_)
        · rfl
        · rfl
      · rfl
    · rfl
noncomputable def S.ref4_letter (a0 : Int) : Bool :=
  ((decide (a0 ≥ 97)) && (decide (a0 ≤ 122))) || ((decide (a0 ≥ 65)) && (decide (a0 ≤ 90)))
theorem s_ref4_letter (a0 : Int)  : M.ref4_letter a0 = some (S.ref4_letter a0) := by
  have hM := maxLen_eq
  unfold M.ref4_letter S.ref4_letter
  rfl
noncomputable def S.ref4_Name_l1 (a0 : ByteArray) (i2 : Nat) : Option (Unit ⊕ Bool) :=
  letS (S.ref4_letter (byteAt a0 (i2 : Int))) (fun r4 => bif (((((!r4) && (!((decide ((byteAt a0 (i2 : Int)) ≥ 48)) && (decide ((byteAt a0 (i2 : Int)) ≤ 57))))) && ((byteAt a0 (i2 : Int)) != 45)) && ((byteAt a0 (i2 : Int)) != 95)) && ((byteAt a0 (i2 : Int)) != 47)) && ((byteAt a0 (i2 : Int)) != 46) then (some (.inr false)) else none)
theorem s_ref4_Name_l1 (a0 : ByteArray) (ha0 : a0.size ≤ maxLen) (i0 : Nat) : loopM (M.ref4_Name_l1 a0) (i0 : Int) = some (runN (S.ref4_Name_l1 a0) (.inl ()) i0 (a0.size - i0)) := by
  have hM := maxLen_eq
  have hni2 : a0.size ≤ maxLen := ha0
  refine loop_runN (n := a0.size) (fun i2 hi2 => ?_) (fun m hm => ?_) i0
  · unfold M.ref4_Name_l1 S.ref4_Name_l1
    try simp only [Int.toNat_natCast]
    refine s_then (dt (by omega)) ?_
    refine s_gd (all_c (dt (by omega)) (all_c (dt (by omega)) all_n)) ?_
    refine s_bindN (s_ref4_letter (byteAt a0 (i2 : Int))) (fun r4 her4 => ?_)
    refine s_ifN (fun hb2 => ?_) (fun hb2 => ?_)
    · exact s_out
    · exact s_up (by omega)
  · unfold M.ref4_Name_l1
    try simp only [Int.toNat_natCast]
    exact s_else (decide_eq_false (by omega)) rfl
noncomputable def S.ref4_Name (a0 : ByteArray) : Bool :=
  letS (bif (!((decide ((a0.size : Int) < 1)) || (decide ((a0.size : Int) > 15)))) then S.ref4_letter (byteAt a0 0) else default) (fun r1 => bif ((decide ((a0.size : Int) < 1)) || (decide ((a0.size : Int) > 15))) || (!r1) then false else (letS (runN (S.ref4_Name_l1 a0) (.inl ()) 1 (a0.size - 1)) (fun y5 => Sum.elim (fun _ => true) (fun y7 => y7) y5)))
theorem s_ref4_Name (a0 : ByteArray) (ha0 : a0.size ≤ maxLen) : M.ref4_Name a0 = some (S.ref4_Name a0) := by
  have hM := maxLen_eq
  unfold M.ref4_Name S.ref4_Name
  refine s_bind (s_gc fun hg => (s_ref4_letter (byteAt a0 0))) (fun r1 her1 => ?_)
  refine s_gd (all_c (s_guard fun hg => (dt (by first | omega | (simp; omega) | (simp at *; omega)))) (all_c (s_guard fun hg => (dt (by first | omega | (simp; omega) | (simp at *; omega)))) all_n)) ?_
  refine s_if (fun hb1 => ?_) (fun hb1 => ?_)
  · rfl
  · refine s_bind (s_ref4_Name_l1 a0 ha0 1) (fun y5 hey5 => ?_)
    refine s_elim (fun _ hl => ?_) (fun y7 hly7 => ?_)
    · rfl
    · rfl
noncomputable def S.ref8_within (a0 : Int) (a1 : Int) (a2 : Int) : Bool :=
  (decide (a1 ≤ a0)) && (decide (a0 ≤ a2))
theorem s_ref8_within (a0 : Int) (a1 : Int) (a2 : Int)  : M.ref8_within a0 a1 a2 = some (S.ref8_within a0 a1 a2) := by
  have hM := maxLen_eq
  unfold M.ref8_within S.ref8_within
  rfl
noncomputable def S.ref4_Network (a0 : Int) (a1 : Int) : TPrefix :=
  letS (S.ref4_Mask (if 0 > (if 32 < a1 then 32 else a1) then 0 else (if 32 < a1 then 32 else a1))) (fun r1 => (⟨bitD .and .u32 a0 r1, if 0 > (if 32 < a1 then 32 else a1) then 0 else (if 32 < a1 then 32 else a1)⟩ : TPrefix))
theorem s_ref4_Network (a0 : Int) (a1 : Int)  : M.ref4_Network a0 a1 = some (S.ref4_Network a0 a1) := by
  have hM := maxLen_eq
  unfold M.ref4_Network S.ref4_Network
  refine s_bind (s_ref4_Mask (if 0 > (if 32 < a1 then 32 else a1) then 0 else (if 32 < a1 then 32 else a1))) (fun r1 her1 => ?_)
  rfl
noncomputable def S.ref4_Contains (a0 : TPrefix) (a1 : Int) : Bool :=
  letS (S.ref4_Mask a0.fLen) (fun r1 => (bitD .and .u32 a1 r1) == a0.fAddr)
theorem s_ref4_Contains (a0 : TPrefix) (a1 : Int)  : M.ref4_Contains a0 a1 = some (S.ref4_Contains a0 a1) := by
  have hM := maxLen_eq
  unfold M.ref4_Contains S.ref4_Contains
  refine s_bind (s_ref4_Mask a0.fLen) (fun r1 her1 => ?_)
  rfl
noncomputable def S.ref4_Covers (a0 : TPrefix) (a1 : TPrefix) : Bool :=
  letS (bif (decide (a0.fLen ≤ a1.fLen)) then S.ref4_Contains a0 a1.fAddr else default) (fun r1 => (decide (a0.fLen ≤ a1.fLen)) && r1)
theorem s_ref4_Covers (a0 : TPrefix) (a1 : TPrefix)  : M.ref4_Covers a0 a1 = some (S.ref4_Covers a0 a1) := by
  have hM := maxLen_eq
  unfold M.ref4_Covers S.ref4_Covers
  refine s_bind (s_gc fun hg => (s_ref4_Contains a0 a1.fAddr)) (fun r1 her1 => ?_)
  rfl
noncomputable def S.ref4_Overlaps (a0 : TPrefix) (a1 : TPrefix) : Bool :=
  letS (S.ref4_Covers a0 a1) (fun r1 => letS (bif (!r1) then S.ref4_Covers a1 a0 else default) (fun r2 => r1 || r2))
theorem s_ref4_Overlaps (a0 : TPrefix) (a1 : TPrefix)  : M.ref4_Overlaps a0 a1 = some (S.ref4_Overlaps a0 a1) := by
  have hM := maxLen_eq
  unfold M.ref4_Overlaps S.ref4_Overlaps
  refine s_bind (s_ref4_Covers a0 a1) (fun r1 her1 => ?_)
  refine s_bind (s_gc fun hg => (s_ref4_Covers a1 a0)) (fun r2 her2 => ?_)
  rfl
noncomputable def S.ref8_interfaces_l2 (a0 : List TInterface) (i1 : Nat) (i4 : Nat) : Option (Unit ⊕ Int) :=
  bif strEq ((a0.getD i4 default).fName) ((a0.getD i1 default).fName) then (some (.inr 4)) else none
theorem s_ref8_interfaces_l2 (a0 : List TInterface) (i1 : Nat) (ha0 : LL L_TInterface a0) (hi1 : i1 < a0.length) (i0 : Nat) : loopM (M.ref8_interfaces_l2 a0 (i1 : Int)) (i0 : Int) = some (runN (S.ref8_interfaces_l2 a0 i1) (.inl ()) i0 (i1 - i0)) := by
  have hM := maxLen_eq
  have hni1 : a0.length ≤ maxLen := ha0.1
  have hni4 : i1 ≤ maxLen := (by omega)
  refine loop_runN (n := i1) (fun i4 hi4 => ?_) (fun m hm => ?_) i0
  · unfold M.ref8_interfaces_l2 S.ref8_interfaces_l2
    try simp only [Int.toNat_natCast]
    refine s_then (dt (by omega)) ?_
    refine s_gd (all_c (dt (by omega)) (all_c (dt (by omega)) all_n)) ?_
    refine s_ifN (fun hb3 => ?_) (fun hb3 => ?_)
    · exact s_out
    · exact s_up (by omega)
  · unfold M.ref8_interfaces_l2
    try simp only [Int.toNat_natCast]
    exact s_else (decide_eq_false (by omega)) rfl
noncomputable def S.ref8_interfaces_l3 (a0 : List TInterface) (i1 : Nat) (i14 : Nat) : Option (Unit ⊕ Int) :=
  letS (bif ((((a0.getD i1 default).fLen) != 0) && (((a0.getD i14 default).fLen) != 0)) then S.ref4_Network ((a0.getD i1 default).fAddr) ((a0.getD i1 default).fLen) else default) (fun r16 => letS (bif ((((a0.getD i1 default).fLen) != 0) && (((a0.getD i14 default).fLen) != 0)) then S.ref4_Network ((a0.getD i14 default).fAddr) ((a0.getD i14 default).fLen) else default) (fun r17 => letS (bif ((((a0.getD i1 default).fLen) != 0) && (((a0.getD i14 default).fLen) != 0)) then S.ref4_Overlaps r16 r17 else default) (fun r18 => bif ((((a0.getD i1 default).fLen) != 0) && (((a0.getD i14 default).fLen) != 0)) && r18 then (some (.inr 6)) else none)))
theorem s_ref8_interfaces_l3 (a0 : List TInterface) (i1 : Nat) (ha0 : LL L_TInterface a0) (hi1 : i1 < a0.length) (i0 : Nat) : loopM (M.ref8_interfaces_l3 a0 (i1 : Int)) (i0 : Int) = some (runN (S.ref8_interfaces_l3 a0 i1) (.inl ()) i0 (i1 - i0)) := by
  have hM := maxLen_eq
  have hni1 : a0.length ≤ maxLen := ha0.1
  have hni14 : i1 ≤ maxLen := (by omega)
  refine loop_runN (n := i1) (fun i14 hi14 => ?_) (fun m hm => ?_) i0
  · unfold M.ref8_interfaces_l3 S.ref8_interfaces_l3
    try simp only [Int.toNat_natCast]
    refine s_then (dt (by omega)) ?_
    refine s_bindN (s_gc fun hg => (s_ref4_Network ((a0.getD i1 default).fAddr) ((a0.getD i1 default).fLen))) (fun r16 her16 => ?_)
    refine s_bindN (s_gc fun hg => (s_ref4_Network ((a0.getD i14 default).fAddr) ((a0.getD i14 default).fLen))) (fun r17 her17 => ?_)
    refine s_bindN (s_gc fun hg => (s_ref4_Overlaps r16 r17)) (fun r18 her18 => ?_)
    refine s_gd (all_c (s_guard fun hg => (dt (by first | omega | (simp; omega) | (simp at *; omega)))) (all_c (s_guard fun hg => (dt (by first | omega | (simp; omega) | (simp at *; omega)))) (all_c (s_guard fun hg => (dt (by first | omega | (simp; omega) | (simp at *; omega)))) (all_c (s_guard fun hg => (dt (by first | omega | (simp; omega) | (simp at *; omega)))) (all_c (s_guard fun hg => (dt (by first | omega | (simp; omega) | (simp at *; omega)))) (all_c (s_guard fun hg => (dt (by first | omega | (simp; omega) | (simp at *; omega)))) all_n)))))) ?_
    refine s_ifN (fun hb7 => ?_) (fun hb7 => ?_)
    · exact s_out
    · exact s_up (by omega)
  · unfold M.ref8_interfaces_l3
    try simp only [Int.toNat_natCast]
    exact s_else (decide_eq_false (by omega)) rfl
noncomputable def S.ref8_interfaces_l1 (a0 : List TInterface) (i1 : Nat) : Option (Unit ⊕ Int) :=
  letS (S.ref4_Name ((a0.getD i1 default).fName)) (fun r3 => bif !r3 then (some (.inr 3)) else (letS (runN (S.ref8_interfaces_l2 a0 i1) (.inl ()) 0 i1) (fun y6 => Sum.elim (fun _ => letS (S.ref8_within ((a0.getD i1 default).fLen) 0 32) (fun r9 => letS (bif (!(!r9)) then S.ref8_within ((a0.getD i1 default).fVLAN) 0 4094 else default) (fun r10 => letS (bif (!((!r9) || (!r10))) then S.ref8_within ((a0.getD i1 default).fSide) 0 2 else default) (fun r11 => bif ((!r9) || (!r10)) || (!r11) then (some (.inr 1)) else (bif ((((a0.getD i1 default).fLen) == 0) && (((((((((a0.getD i1 default).fAddr) != 0) || (((a0.getD i1 default).fVLAN) != 0)) || (((a0.getD i1 default).fSide) != 0)) || ((a0.getD i1 default).fLS)) || ((a0.getD i1 default).fDV)) || (!strEq ((a0.getD i1 default).fIn) (⟨#[]⟩ : ByteArray))) || (!strEq ((a0.getD i1 default).fOut) (⟨#[]⟩ : ByteArray)))) || ((((a0.getD i1 default).fLen) != 0) && (((a0.getD i1 default).fAddr) == 0)) then (some (.inr 1)) else (letS (bif ((a0.getD i1 default).fLS) then S.ref8_within ((a0.getD i1 default).fArea) 0 255 else default) (fun r12 => letS (bif (((a0.getD i1 default).fLS) && !(!r12)) then S.ref8_within ((a0.getD i1 default).fCost) 1 65535 else default) (fun r13 => bif (((a0.getD i1 default).fLS) && ((!r12) || (!r13))) || ((!((a0.getD i1 default).fLS)) && ((((a0.getD i1 default).fArea) != 0) || (((a0.getD i1 default).fCost) != 0))) then (some (.inr 1)) else (letS (runN (S.ref8_interfaces_l3 a0 i1) (.inl ()) 0 i1) (fun y19 => Sum.elim (fun _ => none) (fun y21 => some (.inr y21)) y19)))))))))) (fun y8 => some (.inr y8)) y6)))
theorem s_ref8_interfaces_l1 (a0 : List TInterface) (ha0 : LL L_TInterface a0) (i0 : Nat) : loopM (M.ref8_interfaces_l1 a0) (i0 : Int) = some (runN (S.ref8_interfaces_l1 a0) (.inl ()) i0 (a0.length - i0)) := by
  have hM := maxLen_eq
  have hni1 : a0.length ≤ maxLen := ha0.1
  refine loop_runN (n := a0.length) (fun i1 hi1 => ?_) (fun m hm => ?_) i0
  · unfold M.ref8_interfaces_l1 S.ref8_interfaces_l1
    try simp only [Int.toNat_natCast]
    refine s_then (dt (by omega)) ?_
    refine s_gd (all_c (dt (by omega)) (all_c (dt (by omega)) all_n)) ?_
    refine s_bindN (s_ref4_Name ((a0.getD i1 default).fName) (L_TInterface.fName (LL.getD ha0 L_TInterface.dflt i1))) (fun r3 her3 => ?_)
    refine s_ifN (fun hb2 => ?_) (fun hb2 => ?_)
    · exact s_out
    · refine s_bindN (s_ref8_interfaces_l2 a0 i1 ha0 hi1 0) (fun y6 hey6 => ?_)
      refine s_elimN (fun _ hl => ?_) (fun y8 hly8 => ?_)
      · refine s_bindN (s_ref8_within ((a0.getD i1 default).fLen) 0 32) (fun r9 her9 => ?_)
        refine s_bindN (s_gc fun hg => (s_ref8_within ((a0.getD i1 default).fVLAN) 0 4094)) (fun r10 her10 => ?_)
        refine s_bindN (s_gc fun hg => (s_ref8_within ((a0.getD i1 default).fSide) 0 2)) (fun r11 her11 => ?_)
        refine s_ifN (fun hb4 => ?_) (fun hb4 => ?_)
        · exact s_out
        · refine s_ifN (fun hb5 => ?_) (fun hb5 => ?_)
          · exact s_out
          · refine s_bindN (s_gc fun hg => (s_ref8_within ((a0.getD i1 default).fArea) 0 255)) (fun r12 her12 => ?_)
            refine s_bindN (s_gc fun hg => (s_ref8_within ((a0.getD i1 default).fCost) 1 65535)) (fun r13 her13 => ?_)
            refine s_ifN (fun hb6 => ?_) (fun hb6 => ?_)
            · exact s_out
            · refine s_bindN (s_ref8_interfaces_l3 a0 i1 ha0 hi1 0) (fun y19 hey19 => ?_)
              refine s_elimN (fun _ hl => ?_) (fun y21 hly21 => ?_)
              · exact s_up (by omega)
              · exact s_out
      · exact s_out
  · unfold M.ref8_interfaces_l1
    try simp only [Int.toNat_natCast]
    exact s_else (decide_eq_false (by omega)) rfl
noncomputable def S.ref8_interfaces (a0 : List TInterface) : Int :=
  bif decide ((a0.length : Int) > 8) then 7 else (letS (runN (S.ref8_interfaces_l1 a0) (.inl ()) 0 a0.length) (fun y22 => Sum.elim (fun _ => 0) (fun y24 => y24) y22))
theorem s_ref8_interfaces (a0 : List TInterface) (ha0 : LL L_TInterface a0) : M.ref8_interfaces a0 = some (S.ref8_interfaces a0) := by
  have hM := maxLen_eq
  unfold M.ref8_interfaces S.ref8_interfaces
  refine s_if (fun hb1 => ?_) (fun hb1 => ?_)
  · rfl
  · refine s_bind (s_ref8_interfaces_l1 a0 ha0 0) (fun y22 hey22 => ?_)
    refine s_elim (fun _ hl => ?_) (fun y24 hly24 => ?_)
    · rfl
    · rfl
noncomputable def S.ref4_Valid (a0 : TPrefix) : Bool :=
  letS (bif ((decide (a0.fLen ≥ 0)) && (decide (a0.fLen ≤ 32))) then S.ref4_Mask a0.fLen else default) (fun r1 => ((decide (a0.fLen ≥ 0)) && (decide (a0.fLen ≤ 32))) && ((bitD .andNot .u32 a0.fAddr r1) == 0))
theorem s_ref4_Valid (a0 : TPrefix)  : M.ref4_Valid a0 = some (S.ref4_Valid a0) := by
  have hM := maxLen_eq
  unfold M.ref4_Valid S.ref4_Valid
  refine s_bind (s_gc fun hg => (s_ref4_Mask a0.fLen)) (fun r1 her1 => ?_)
  rfl
noncomputable def S.ref8_ValidPrefixRule (a0 : TPrefixRule) : Bool :=
  letS (S.ref4_Valid a0.fPrefix) (fun r1 => ((r1 && (decide (a0.fPrefix.fLen ≤ a0.fMin))) && (decide (a0.fMin ≤ a0.fMax))) && (decide (a0.fMax ≤ 32)))
theorem s_ref8_ValidPrefixRule (a0 : TPrefixRule)  : M.ref8_ValidPrefixRule a0 = some (S.ref8_ValidPrefixRule a0) := by
  have hM := maxLen_eq
  unfold M.ref8_ValidPrefixRule S.ref8_ValidPrefixRule
  refine s_bind (s_ref4_Valid a0.fPrefix) (fun r1 her1 => ?_)
  rfl
noncomputable def S.ref8_prefixLists_l2 (a0 : List TPrefixList) (i1 : Nat) (i4 : Nat) : Option (Unit ⊕ Int) :=
  bif strEq ((a0.getD i4 default).fName) ((a0.getD i1 default).fName) then (some (.inr 4)) else none
theorem s_ref8_prefixLists_l2 (a0 : List TPrefixList) (i1 : Nat) (ha0 : LL L_TPrefixList a0) (hi1 : i1 < a0.length) (i0 : Nat) : loopM (M.ref8_prefixLists_l2 a0 (i1 : Int)) (i0 : Int) = some (runN (S.ref8_prefixLists_l2 a0 i1) (.inl ()) i0 (i1 - i0)) := by
  have hM := maxLen_eq
  have hni1 : a0.length ≤ maxLen := ha0.1
  have hni4 : i1 ≤ maxLen := (by omega)
  refine loop_runN (n := i1) (fun i4 hi4 => ?_) (fun m hm => ?_) i0
  · unfold M.ref8_prefixLists_l2 S.ref8_prefixLists_l2
    try simp only [Int.toNat_natCast]
    refine s_then (dt (by omega)) ?_
    refine s_gd (all_c (dt (by omega)) (all_c (dt (by omega)) (all_c (dt (by omega)) (all_c (dt (by omega)) all_n)))) ?_
    refine s_ifN (fun hb3 => ?_) (fun hb3 => ?_)
    · exact s_out
    · exact s_up (by omega)
  · unfold M.ref8_prefixLists_l2
    try simp only [Int.toNat_natCast]
    exact s_else (decide_eq_false (by omega)) rfl
noncomputable def S.ref8_prefixLists_l3 (a0 : List TPrefixList) (i1 : Nat) (i9 : Nat) : Option (Unit ⊕ Int) :=
  letS (S.ref8_ValidPrefixRule (((a0.getD i1 default).fRules).getD i9 default)) (fun r11 => bif !r11 then (some (.inr 1)) else none)
theorem s_ref8_prefixLists_l3 (a0 : List TPrefixList) (i1 : Nat) (ha0 : LL L_TPrefixList a0) (hi1 : i1 < a0.length) (i0 : Nat) : loopM (M.ref8_prefixLists_l3 a0 (i1 : Int)) (i0 : Int) = some (runN (S.ref8_prefixLists_l3 a0 i1) (.inl ()) i0 (((a0.getD i1 default).fRules).length - i0)) := by
  have hM := maxLen_eq
  have hni1 : a0.length ≤ maxLen := ha0.1
  have hni9 : ((a0.getD i1 default).fRules).length ≤ maxLen := (L_TPrefixList.fRules (LL.getD ha0 L_TPrefixList.dflt i1))
  refine loop_runN (n := ((a0.getD i1 default).fRules).length) (fun i9 hi9 => ?_) (fun m hm => ?_) i0
  · unfold M.ref8_prefixLists_l3 S.ref8_prefixLists_l3
    try simp only [Int.toNat_natCast]
    refine s_gd (all_c (dt (by omega)) (all_c (dt (by omega)) all_n))  ?_
    refine s_then (dt (by omega)) ?_
    refine s_bindN (s_ref8_ValidPrefixRule (((a0.getD i1 default).fRules).getD i9 default)) (fun r11 her11 => ?_)
    refine s_gd (all_c (dt (by omega)) (all_c (dt (by omega)) (all_c (dt (by omega)) (all_c (dt (by omega)) all_n)))) ?_
    refine s_ifN (fun hb6 => ?_) (fun hb6 => ?_)
    · exact s_out
    · exact s_up (by omega)
  · unfold M.ref8_prefixLists_l3
    try simp only [Int.toNat_natCast]
    refine s_gd (all_c (dt (by omega)) (all_c (dt (by omega)) all_n))  ?_
    exact s_else (decide_eq_false (by omega)) rfl
noncomputable def S.ref8_prefixLists_l1 (a0 : List TPrefixList) (i1 : Nat) : Option (Unit ⊕ Int) :=
  letS (S.ref4_Name ((a0.getD i1 default).fName)) (fun r3 => bif !r3 then (some (.inr 3)) else (letS (runN (S.ref8_prefixLists_l2 a0 i1) (.inl ()) 0 i1) (fun y6 => Sum.elim (fun _ => bif (((a0.getD i1 default).fRules).length : Int) == 0 then (some (.inr 1)) else (bif decide ((((a0.getD i1 default).fRules).length : Int) > 16) then (some (.inr 7)) else (letS (runN (S.ref8_prefixLists_l3 a0 i1) (.inl ()) 0 (((a0.getD i1 default).fRules).length)) (fun y12 => Sum.elim (fun _ => none) (fun y14 => some (.inr y14)) y12)))) (fun y8 => some (.inr y8)) y6)))
theorem s_ref8_prefixLists_l1 (a0 : List TPrefixList) (ha0 : LL L_TPrefixList a0) (i0 : Nat) : loopM (M.ref8_prefixLists_l1 a0) (i0 : Int) = some (runN (S.ref8_prefixLists_l1 a0) (.inl ()) i0 (a0.length - i0)) := by
  have hM := maxLen_eq
  have hni1 : a0.length ≤ maxLen := ha0.1
  refine loop_runN (n := a0.length) (fun i1 hi1 => ?_) (fun m hm => ?_) i0
  · unfold M.ref8_prefixLists_l1 S.ref8_prefixLists_l1
    try simp only [Int.toNat_natCast]
    refine s_then (dt (by omega)) ?_
    refine s_bindN (s_ref4_Name ((a0.getD i1 default).fName) (L_TPrefixList.fName (LL.getD ha0 L_TPrefixList.dflt i1))) (fun r3 her3 => ?_)
    refine s_gd (all_c (dt (by omega)) (all_c (dt (by omega)) all_n)) ?_
    refine s_ifN (fun hb2 => ?_) (fun hb2 => ?_)
    · exact s_out
    · refine s_bindN (s_ref8_prefixLists_l2 a0 i1 ha0 hi1 0) (fun y6 hey6 => ?_)
      refine s_elimN (fun _ hl => ?_) (fun y8 hly8 => ?_)
      · refine s_gd (all_c (dt (by omega)) (all_c (dt (by omega)) all_n)) ?_
        refine s_ifN (fun hb4 => ?_) (fun hb4 => ?_)
        · exact s_out
        · refine s_gd (all_c (dt (by omega)) (all_c (dt (by omega)) all_n)) ?_
          refine s_ifN (fun hb5 => ?_) (fun hb5 => ?_)
          · exact s_out
          · refine s_bindN (s_ref8_prefixLists_l3 a0 i1 ha0 hi1 0) (fun y12 hey12 => ?_)
            refine s_elimN (fun _ hl => ?_) (fun y14 hly14 => ?_)
            · exact s_up (by omega)
            · exact s_out
      · exact s_out
  · unfold M.ref8_prefixLists_l1
    try simp only [Int.toNat_natCast]
    exact s_else (decide_eq_false (by omega)) rfl
noncomputable def S.ref8_prefixLists (a0 : List TPrefixList) : Int :=
  bif decide ((a0.length : Int) > 8) then 7 else (letS (runN (S.ref8_prefixLists_l1 a0) (.inl ()) 0 a0.length) (fun y15 => Sum.elim (fun _ => 0) (fun y17 => y17) y15))
theorem s_ref8_prefixLists (a0 : List TPrefixList) (ha0 : LL L_TPrefixList a0) : M.ref8_prefixLists a0 = some (S.ref8_prefixLists a0) := by
  have hM := maxLen_eq
  unfold M.ref8_prefixLists S.ref8_prefixLists
  refine s_if (fun hb1 => ?_) (fun hb1 => ?_)
  · rfl
  · refine s_bind (s_ref8_prefixLists_l1 a0 ha0 0) (fun y15 hey15 => ?_)
    refine s_elim (fun _ hl => ?_) (fun y17 hly17 => ?_)
    · rfl
    · rfl
noncomputable def S.ref8_PrefixList_l1 (a0 : TRouter) (a1 : ByteArray) (i1 : Nat) : Option (Unit ⊕ Int) :=
  bif strEq ((a0.fLists.getD i1 default).fName) a1 then (some (.inr (i1 : Int))) else none
theorem s_ref8_PrefixList_l1 (a0 : TRouter) (a1 : ByteArray) (ha0 : L_TRouter a0) (ha1 : a1.size ≤ maxLen) (i0 : Nat) : loopM (M.ref8_PrefixList_l1 a0 a1) (i0 : Int) = some (runN (S.ref8_PrefixList_l1 a0 a1) (.inl ()) i0 (a0.fLists.length - i0)) := by
  have hM := maxLen_eq
  have hni1 : a0.fLists.length ≤ maxLen := (L_TRouter.fLists ha0).1
  refine loop_runN (n := a0.fLists.length) (fun i1 hi1 => ?_) (fun m hm => ?_) i0
  · unfold M.ref8_PrefixList_l1 S.ref8_PrefixList_l1
    try simp only [Int.toNat_natCast]
    refine s_then (dt (by omega)) ?_
    refine s_gd (all_c (dt (by omega)) (all_c (dt (by omega)) all_n)) ?_
    refine s_ifN (fun hb1 => ?_) (fun hb1 => ?_)
    · exact s_out
    · exact s_up (by omega)
  · unfold M.ref8_PrefixList_l1
    try simp only [Int.toNat_natCast]
    exact s_else (decide_eq_false (by omega)) rfl
noncomputable def S.ref8_PrefixList (a0 : TRouter) (a1 : ByteArray) : Int :=
  letS (runN (S.ref8_PrefixList_l1 a0 a1) (.inl ()) 0 a0.fLists.length) (fun y3 => Sum.elim (fun _ => -1) (fun y5 => y5) y3)
theorem s_ref8_PrefixList (a0 : TRouter) (a1 : ByteArray) (ha0 : L_TRouter a0) (ha1 : a1.size ≤ maxLen) : M.ref8_PrefixList a0 a1 = some (S.ref8_PrefixList a0 a1) := by
  have hM := maxLen_eq
  unfold M.ref8_PrefixList S.ref8_PrefixList
  refine s_bind (s_ref8_PrefixList_l1 a0 a1 ha0 ha1 0) (fun y3 hey3 => ?_)
  refine s_elim (fun _ hl => ?_) (fun y5 hly5 => ?_)
  · rfl
  · rfl
theorem rng_ref8_PrefixList (a0 : TRouter) (a1 : ByteArray) : S.ref8_PrefixList a0 a1 < (a0.fLists.length : Int) := by
  unfold S.ref8_PrefixList
  simp only [letS]
  exact idx_lt (fun i => by unfold S.ref8_PrefixList_l1; cases strEq (a0.fLists.getD i default).fName a1 <;> simp) _
noncomputable def S.ref8_routeMaps_l2 (a0 : TRouter) (i1 : Nat) (i4 : Nat) : Option (Unit ⊕ Int) :=
  bif strEq ((a0.fMaps.getD i4 default).fName) ((a0.fMaps.getD i1 default).fName) then (some (.inr 4)) else none
theorem s_ref8_routeMaps_l2 (a0 : TRouter) (i1 : Nat) (ha0 : L_TRouter a0) (hi1 : i1 < a0.fMaps.length) (i0 : Nat) : loopM (M.ref8_routeMaps_l2 a0 (i1 : Int)) (i0 : Int) = some (runN (S.ref8_routeMaps_l2 a0 i1) (.inl ()) i0 (i1 - i0)) := by
  have hM := maxLen_eq
  have hni1 : a0.fMaps.length ≤ maxLen := (L_TRouter.fMaps ha0).1
  have hni4 : i1 ≤ maxLen := (by omega)
  refine loop_runN (n := i1) (fun i4 hi4 => ?_) (fun m hm => ?_) i0
  · unfold M.ref8_routeMaps_l2 S.ref8_routeMaps_l2
    try simp only [Int.toNat_natCast]
    refine s_then (dt (by omega)) ?_
    refine s_gd (all_c (dt (by omega)) (all_c (dt (by omega)) (all_c (dt (by omega)) (all_c (dt (by omega)) all_n)))) ?_
    refine s_ifN (fun hb3 => ?_) (fun hb3 => ?_)
    · exact s_out
    · exact s_up (by omega)
  · unfold M.ref8_routeMaps_l2
    try simp only [Int.toNat_natCast]
    exact s_else (decide_eq_false (by omega)) rfl
noncomputable def S.ref8_routeMaps_l3 (a0 : TRouter) (i1 : Nat) (i9 : Nat) : Option (Unit ⊕ Int) :=
  letS (bif (!strEq ((((a0.fMaps.getD i1 default).fClauses).getD i9 default).fList) (⟨#[]⟩ : ByteArray)) then S.ref8_PrefixList a0 ((((a0.fMaps.getD i1 default).fClauses).getD i9 default).fList) else default) (fun r11 => bif (!strEq ((((a0.fMaps.getD i1 default).fClauses).getD i9 default).fList) (⟨#[]⟩ : ByteArray)) && (decide (r11 < 0)) then (some (.inr 5)) else (letS (S.ref8_within ((((a0.fMaps.getD i1 default).fClauses).getD i9 default).fTag) (-1) 65535) (fun r12 => letS (bif (!(!r12)) then S.ref8_within ((((a0.fMaps.getD i1 default).fClauses).getD i9 default).fSetTag) (-1) 65535 else default) (fun r13 => letS (bif (!((!r12) || (!r13))) then S.ref8_within ((((a0.fMaps.getD i1 default).fClauses).getD i9 default).fSetMetric) (-1) 16777215 else default) (fun r14 => letS (bif (!(((!r12) || (!r13)) || (!r14))) then S.ref8_within ((((a0.fMaps.getD i1 default).fClauses).getD i9 default).fSetPref) (-1) 1000000 else default) (fun r15 => letS (bif (!((((!r12) || (!r13)) || (!r14)) || (!r15))) then S.ref8_within ((((a0.fMaps.getD i1 default).fClauses).getD i9 default).fPrepend) 0 8 else default) (fun r16 => bif ((((!r12) || (!r13)) || (!r14)) || (!r15)) || (!r16) then (some (.inr 1)) else none)))))))
theorem s_ref8_routeMaps_l3 (a0 : TRouter) (i1 : Nat) (ha0 : L_TRouter a0) (hi1 : i1 < a0.fMaps.length) (i0 : Nat) : loopM (M.ref8_routeMaps_l3 a0 (i1 : Int)) (i0 : Int) = some (runN (S.ref8_routeMaps_l3 a0 i1) (.inl ()) i0 (((a0.fMaps.getD i1 default).fClauses).length - i0)) := by
  have hM := maxLen_eq
  have hni1 : a0.fMaps.length ≤ maxLen := (L_TRouter.fMaps ha0).1
  have hni9 : ((a0.fMaps.getD i1 default).fClauses).length ≤ maxLen := (L_TRouteMap.fClauses (LL.getD (L_TRouter.fMaps ha0) L_TRouteMap.dflt i1)).1
  refine loop_runN (n := ((a0.fMaps.getD i1 default).fClauses).length) (fun i9 hi9 => ?_) (fun m hm => ?_) i0
  · unfold M.ref8_routeMaps_l3 S.ref8_routeMaps_l3
    try simp only [Int.toNat_natCast]
    refine s_gd (all_c (dt (by omega)) (all_c (dt (by omega)) all_n))  ?_
    refine s_then (dt (by omega)) ?_
    refine s_gd (all_c (dt (by omega)) (all_c (dt (by omega)) (all_c (dt (by omega)) (all_c (dt (by omega)) all_n)))) ?_
    refine s_bindN (s_gc fun hg => (s_ref8_PrefixList a0 ((((a0.fMaps.getD i1 default).fClauses).getD i9 default).fList) ha0 (L_TClause.fList (LL.getD (L_TRouteMap.fClauses (LL.getD (L_TRouter.fMaps ha0) L_TRouteMap.dflt i1)) L_TClause.dflt i9)))) (fun r11 her11 => ?_)
    have hrr11 := rng_ref8_PrefixList a0 ((((a0.fMaps.getD i1 default).fClauses).getD i9 default).fList)
    refine s_ifN (fun hb6 => ?_) (fun hb6 => ?_)
    · exact s_out
    · refine s_bindN (s_ref8_within ((((a0.fMaps.getD i1 default).fClauses).getD i9 default).fTag) (-1) 65535) (fun r12 her12 => ?_)
      refine s_bindN (s_gc fun hg => (s_ref8_within ((((a0.fMaps.getD i1 default).fClauses).getD i9 default).fSetTag) (-1) 65535)) (fun r13 her13 => ?_)
      refine s_bindN (s_gc fun hg => (s_ref8_within ((((a0.fMaps.getD i1 default).fClauses).getD i9 default).fSetMetric) (-1) 16777215)) (fun r14 her14 => ?_)
      refine s_bindN (s_gc fun hg => (s_ref8_within ((((a0.fMaps.getD i1 default).fClauses).getD i9 default).fSetPref) (-1) 1000000)) (fun r15 her15 => ?_)
      refine s_bindN (s_gc fun hg => (s_ref8_within ((((a0.fMaps.getD i1 default).fClauses).getD i9 default).fPrepend) 0 8)) (fun r16 her16 => ?_)
      refine s_ifN (fun hb7 => ?_) (fun hb7 => ?_)
      · exact s_out
      · exact s_up (by omega)
  · unfold M.ref8_routeMaps_l3
    try simp only [Int.toNat_natCast]
    refine s_gd (all_c (dt (by omega)) (all_c (dt (by omega)) all_n))  ?_
    exact s_else (decide_eq_false (by omega)) rfl
noncomputable def S.ref8_routeMaps_l1 (a0 : TRouter) (i1 : Nat) : Option (Unit ⊕ Int) :=
  letS (S.ref4_Name ((a0.fMaps.getD i1 default).fName)) (fun r3 => bif !r3 then (some (.inr 3)) else (letS (runN (S.ref8_routeMaps_l2 a0 i1) (.inl ()) 0 i1) (fun y6 => Sum.elim (fun _ => bif (((a0.fMaps.getD i1 default).fClauses).length : Int) == 0 then (some (.inr 1)) else (bif decide ((((a0.fMaps.getD i1 default).fClauses).length : Int) > 8) then (some (.inr 7)) else (letS (runN (S.ref8_routeMaps_l3 a0 i1) (.inl ()) 0 (((a0.fMaps.getD i1 default).fClauses).length)) (fun y17 => Sum.elim (fun _ => none) (fun y19 => some (.inr y19)) y17)))) (fun y8 => some (.inr y8)) y6)))
theorem s_ref8_routeMaps_l1 (a0 : TRouter) (ha0 : L_TRouter a0) (i0 : Nat) : loopM (M.ref8_routeMaps_l1 a0) (i0 : Int) = some (runN (S.ref8_routeMaps_l1 a0) (.inl ()) i0 (a0.fMaps.length - i0)) := by
  have hM := maxLen_eq
  have hni1 : a0.fMaps.length ≤ maxLen := (L_TRouter.fMaps ha0).1
  refine loop_runN (n := a0.fMaps.length) (fun i1 hi1 => ?_) (fun m hm => ?_) i0
  · unfold M.ref8_routeMaps_l1 S.ref8_routeMaps_l1
    try simp only [Int.toNat_natCast]
    refine s_then (dt (by omega)) ?_
    refine s_bindN (s_ref4_Name ((a0.fMaps.getD i1 default).fName) (L_TRouteMap.fName (LL.getD (L_TRouter.fMaps ha0) L_TRouteMap.dflt i1))) (fun r3 her3 => ?_)
    refine s_gd (all_c (dt (by omega)) (all_c (dt (by omega)) all_n)) ?_
    refine s_ifN (fun hb2 => ?_) (fun hb2 => ?_)
    · exact s_out
    · refine s_bindN (s_ref8_routeMaps_l2 a0 i1 ha0 hi1 0) (fun y6 hey6 => ?_)
      refine s_elimN (fun _ hl => ?_) (fun y8 hly8 => ?_)
      · refine s_gd (all_c (dt (by omega)) (all_c (dt (by omega)) all_n)) ?_
        refine s_ifN (fun hb4 => ?_) (fun hb4 => ?_)
        · exact s_out
        · refine s_gd (all_c (dt (by omega)) (all_c (dt (by omega)) all_n)) ?_
          refine s_ifN (fun hb5 => ?_) (fun hb5 => ?_)
          · exact s_out
          · refine s_bindN (s_ref8_routeMaps_l3 a0 i1 ha0 hi1 0) (fun y17 hey17 => ?_)
            refine s_elimN (fun _ hl => ?_) (fun y19 hly19 => ?_)
            · exact s_up (by omega)
            · exact s_out
      · exact s_out
  · unfold M.ref8_routeMaps_l1
    try simp only [Int.toNat_natCast]
    exact s_else (decide_eq_false (by omega)) rfl
noncomputable def S.ref8_routeMaps (a0 : TRouter) : Int :=
  bif decide ((a0.fMaps.length : Int) > 8) then 7 else (letS (runN (S.ref8_routeMaps_l1 a0) (.inl ()) 0 a0.fMaps.length) (fun y20 => Sum.elim (fun _ => 0) (fun y22 => y22) y20))
theorem s_ref8_routeMaps (a0 : TRouter) (ha0 : L_TRouter a0) : M.ref8_routeMaps a0 = some (S.ref8_routeMaps a0) := by
  have hM := maxLen_eq
  unfold M.ref8_routeMaps S.ref8_routeMaps
  refine s_if (fun hb1 => ?_) (fun hb1 => ?_)
  · rfl
  · refine s_bind (s_ref8_routeMaps_l1 a0 ha0 0) (fun y20 hey20 => ?_)
    refine s_elim (fun _ hl => ?_) (fun y22 hly22 => ?_)
    · rfl
    · rfl
noncomputable def S.ref8_ports (a0 : TPortRange) : Bool :=
  ((decide (0 ≤ a0.fLo)) && (decide (a0.fLo ≤ a0.fHi))) && (decide (a0.fHi ≤ 65535))
theorem s_ref8_ports (a0 : TPortRange)  : M.ref8_ports a0 = some (S.ref8_ports a0) := by
  have hM := maxLen_eq
  unfold M.ref8_ports S.ref8_ports
  rfl
noncomputable def S.ref8_all (a0 : TPortRange) : Bool :=
  (a0.fLo == 0) && ((a0.fHi == 65535) && true)
theorem s_ref8_all (a0 : TPortRange)  : M.ref8_all a0 = some (S.ref8_all a0) := by
  have hM := maxLen_eq
  unfold M.ref8_all S.ref8_all
  rfl
noncomputable def S.ref8_ValidRule (a0 : TRule) : Bool :=
  letS (S.ref8_within a0.fProto (-1) 255) (fun r1 => letS (bif (!(((!r1) || ((bitD .and .u32 a0.fSrc.fAddr a0.fSrc.fMask) != 0)) || ((bitD .and .u32 a0.fDst.fAddr a0.fDst.fMask) != 0))) then S.ref8_ports a0.fSrcPorts else default) (fun r2 => letS (bif (!((((!r1) || ((bitD .and .u32 a0.fSrc.fAddr a0.fSrc.fMask) != 0)) || ((bitD .and .u32 a0.fDst.fAddr a0.fDst.fMask) != 0)) || (!r2))) then S.ref8_ports a0.fDstPorts else default) (fun r3 => bif ((((!r1) || ((bitD .and .u32 a0.fSrc.fAddr a0.fSrc.fMask) != 0)) || ((bitD .and .u32 a0.fDst.fAddr a0.fDst.fMask) != 0)) || (!r2)) || (!r3) then false else (letS (bif (!((a0.fProto == 6) || (a0.fProto == 17))) then S.ref8_all a0.fSrcPorts else default) (fun r4 => letS (bif ((!((a0.fProto == 6) || (a0.fProto == 17))) && r4) then S.ref8_all a0.fDstPorts else default) (fun r5 => ((a0.fProto == 6) || (a0.fProto == 17)) || (r4 && r5)))))))
theorem s_ref8_ValidRule (a0 : TRule)  : M.ref8_ValidRule a0 = some (S.ref8_ValidRule a0) := by
  have hM := maxLen_eq
  unfold M.ref8_ValidRule S.ref8_ValidRule
  refine s_bind (s_ref8_within a0.fProto (-1) 255) (fun r1 her1 => ?_)
  refine s_bind (s_gc fun hg => (s_ref8_ports a0.fSrcPorts)) (fun r2 her2 => ?_)
  refine s_bind (s_gc fun hg => (s_ref8_ports a0.fDstPorts)) (fun r3 her3 => ?_)
  refine s_if (fun hb1 => ?_) (fun hb1 => ?_)
  · rfl
  · refine s_bind (s_gc fun hg => (s_ref8_all a0.fSrcPorts)) (fun r4 her4 => ?_)
    refine s_bind (s_gc fun hg => (s_ref8_all a0.fDstPorts)) (fun r5 her5 => ?_)
    rfl
noncomputable def S.ref8_accessLists_l2 (a0 : List TACL) (i1 : Nat) (i4 : Nat) : Option (Unit ⊕ Int) :=
  bif strEq ((a0.getD i4 default).fName) ((a0.getD i1 default).fName) then (some (.inr 4)) else none
theorem s_ref8_accessLists_l2 (a0 : List TACL) (i1 : Nat) (ha0 : LL L_TACL a0) (hi1 : i1 < a0.length) (i0 : Nat) : loopM (M.ref8_accessLists_l2 a0 (i1 : Int)) (i0 : Int) = some (runN (S.ref8_accessLists_l2 a0 i1) (.inl ()) i0 (i1 - i0)) := by
  have hM := maxLen_eq
  have hni1 : a0.length ≤ maxLen := ha0.1
  have hni4 : i1 ≤ maxLen := (by omega)
  refine loop_runN (n := i1) (fun i4 hi4 => ?_) (fun m hm => ?_) i0
  · unfold M.ref8_accessLists_l2 S.ref8_accessLists_l2
    try simp only [Int.toNat_natCast]
    refine s_then (dt (by omega)) ?_
    refine s_gd (all_c (dt (by omega)) (all_c (dt (by omega)) (all_c (dt (by omega)) (all_c (dt (by omega)) all_n)))) ?_
    refine s_ifN (fun hb3 => ?_) (fun hb3 => ?_)
    · exact s_out
    · exact s_up (by omega)
  · unfold M.ref8_accessLists_l2
    try simp only [Int.toNat_natCast]
    exact s_else (decide_eq_false (by omega)) rfl
noncomputable def S.ref8_accessLists_l3 (a0 : List TACL) (i1 : Nat) (i9 : Nat) : Option (Unit ⊕ Int) :=
  letS (S.ref8_ValidRule (((a0.getD i1 default).fRules).getD i9 default)) (fun r11 => bif !r11 then (some (.inr 1)) else none)
theorem s_ref8_accessLists_l3 (a0 : List TACL) (i1 : Nat) (ha0 : LL L_TACL a0) (hi1 : i1 < a0.length) (i0 : Nat) : loopM (M.ref8_accessLists_l3 a0 (i1 : Int)) (i0 : Int) = some (runN (S.ref8_accessLists_l3 a0 i1) (.inl ()) i0 (((a0.getD i1 default).fRules).length - i0)) := by
  have hM := maxLen_eq
  have hni1 : a0.length ≤ maxLen := ha0.1
  have hni9 : ((a0.getD i1 default).fRules).length ≤ maxLen := (L_TACL.fRules (LL.getD ha0 L_TACL.dflt i1))
  refine loop_runN (n := ((a0.getD i1 default).fRules).length) (fun i9 hi9 => ?_) (fun m hm => ?_) i0
  · unfold M.ref8_accessLists_l3 S.ref8_accessLists_l3
    try simp only [Int.toNat_natCast]
    refine s_gd (all_c (dt (by omega)) (all_c (dt (by omega)) all_n))  ?_
    refine s_then (dt (by omega)) ?_
    refine s_bindN (s_ref8_ValidRule (((a0.getD i1 default).fRules).getD i9 default)) (fun r11 her11 => ?_)
    refine s_gd (all_c (dt (by omega)) (all_c (dt (by omega)) (all_c (dt (by omega)) (all_c (dt (by omega)) all_n)))) ?_
    refine s_ifN (fun hb6 => ?_) (fun hb6 => ?_)
    · exact s_out
    · exact s_up (by omega)
  · unfold M.ref8_accessLists_l3
    try simp only [Int.toNat_natCast]
    refine s_gd (all_c (dt (by omega)) (all_c (dt (by omega)) all_n))  ?_
    exact s_else (decide_eq_false (by omega)) rfl
noncomputable def S.ref8_accessLists_l1 (a0 : List TACL) (i1 : Nat) : Option (Unit ⊕ Int) :=
  letS (S.ref4_Name ((a0.getD i1 default).fName)) (fun r3 => bif !r3 then (some (.inr 3)) else (letS (runN (S.ref8_accessLists_l2 a0 i1) (.inl ()) 0 i1) (fun y6 => Sum.elim (fun _ => bif (((a0.getD i1 default).fRules).length : Int) == 0 then (some (.inr 1)) else (bif decide ((((a0.getD i1 default).fRules).length : Int) > 16) then (some (.inr 7)) else (letS (runN (S.ref8_accessLists_l3 a0 i1) (.inl ()) 0 (((a0.getD i1 default).fRules).length)) (fun y12 => Sum.elim (fun _ => none) (fun y14 => some (.inr y14)) y12)))) (fun y8 => some (.inr y8)) y6)))
theorem s_ref8_accessLists_l1 (a0 : List TACL) (ha0 : LL L_TACL a0) (i0 : Nat) : loopM (M.ref8_accessLists_l1 a0) (i0 : Int) = some (runN (S.ref8_accessLists_l1 a0) (.inl ()) i0 (a0.length - i0)) := by
  have hM := maxLen_eq
  have hni1 : a0.length ≤ maxLen := ha0.1
  refine loop_runN (n := a0.length) (fun i1 hi1 => ?_) (fun m hm => ?_) i0
  · unfold M.ref8_accessLists_l1 S.ref8_accessLists_l1
    try simp only [Int.toNat_natCast]
    refine s_then (dt (by omega)) ?_
    refine s_bindN (s_ref4_Name ((a0.getD i1 default).fName) (L_TACL.fName (LL.getD ha0 L_TACL.dflt i1))) (fun r3 her3 => ?_)
    refine s_gd (all_c (dt (by omega)) (all_c (dt (by omega)) all_n)) ?_
    refine s_ifN (fun hb2 => ?_) (fun hb2 => ?_)
    · exact s_out
    · refine s_bindN (s_ref8_accessLists_l2 a0 i1 ha0 hi1 0) (fun y6 hey6 => ?_)
      refine s_elimN (fun _ hl => ?_) (fun y8 hly8 => ?_)
      · refine s_gd (all_c (dt (by omega)) (all_c (dt (by omega)) all_n)) ?_
        refine s_ifN (fun hb4 => ?_) (fun hb4 => ?_)
        · exact s_out
        · refine s_gd (all_c (dt (by omega)) (all_c (dt (by omega)) all_n)) ?_
          refine s_ifN (fun hb5 => ?_) (fun hb5 => ?_)
          · exact s_out
          · refine s_bindN (s_ref8_accessLists_l3 a0 i1 ha0 hi1 0) (fun y12 hey12 => ?_)
            refine s_elimN (fun _ hl => ?_) (fun y14 hly14 => ?_)
            · exact s_up (by omega)
            · exact s_out
      · exact s_out
  · unfold M.ref8_accessLists_l1
    try simp only [Int.toNat_natCast]
    exact s_else (decide_eq_false (by omega)) rfl
noncomputable def S.ref8_accessLists (a0 : List TACL) : Int :=
  bif decide ((a0.length : Int) > 8) then 7 else (letS (runN (S.ref8_accessLists_l1 a0) (.inl ()) 0 a0.length) (fun y15 => Sum.elim (fun _ => 0) (fun y17 => y17) y15))
theorem s_ref8_accessLists (a0 : List TACL) (ha0 : LL L_TACL a0) : M.ref8_accessLists a0 = some (S.ref8_accessLists a0) := by
  have hM := maxLen_eq
  unfold M.ref8_accessLists S.ref8_accessLists
  refine s_if (fun hb1 => ?_) (fun hb1 => ?_)
  · rfl
  · refine s_bind (s_ref8_accessLists_l1 a0 ha0 0) (fun y15 hey15 => ?_)
    refine s_elim (fun _ hl => ?_) (fun y17 hly17 => ?_)
    · rfl
    · rfl
noncomputable def S.ref8_ACL_l1 (a0 : TRouter) (a1 : ByteArray) (i1 : Nat) : Option (Unit ⊕ Int) :=
  bif strEq ((a0.fACLs.getD i1 default).fName) a1 then (some (.inr (i1 : Int))) else none
theorem s_ref8_ACL_l1 (a0 : TRouter) (a1 : ByteArray) (ha0 : L_TRouter a0) (ha1 : a1.size ≤ maxLen) (i0 : Nat) : loopM (M.ref8_ACL_l1 a0 a1) (i0 : Int) = some (runN (S.ref8_ACL_l1 a0 a1) (.inl ()) i0 (a0.fACLs.length - i0)) := by
  have hM := maxLen_eq
  have hni1 : a0.fACLs.length ≤ maxLen := (L_TRouter.fACLs ha0).1
  refine loop_runN (n := a0.fACLs.length) (fun i1 hi1 => ?_) (fun m hm => ?_) i0
  · unfold M.ref8_ACL_l1 S.ref8_ACL_l1
    try simp only [Int.toNat_natCast]
    refine s_then (dt (by omega)) ?_
    refine s_gd (all_c (dt (by omega)) (all_c (dt (by omega)) all_n)) ?_
    refine s_ifN (fun hb1 => ?_) (fun hb1 => ?_)
    · exact s_out
    · exact s_up (by omega)
  · unfold M.ref8_ACL_l1
    try simp only [Int.toNat_natCast]
    exact s_else (decide_eq_false (by omega)) rfl
noncomputable def S.ref8_ACL (a0 : TRouter) (a1 : ByteArray) : Int :=
  letS (runN (S.ref8_ACL_l1 a0 a1) (.inl ()) 0 a0.fACLs.length) (fun y3 => Sum.elim (fun _ => -1) (fun y5 => y5) y3)
theorem s_ref8_ACL (a0 : TRouter) (a1 : ByteArray) (ha0 : L_TRouter a0) (ha1 : a1.size ≤ maxLen) : M.ref8_ACL a0 a1 = some (S.ref8_ACL a0 a1) := by
  have hM := maxLen_eq
  unfold M.ref8_ACL S.ref8_ACL
  refine s_bind (s_ref8_ACL_l1 a0 a1 ha0 ha1 0) (fun y3 hey3 => ?_)
  refine s_elim (fun _ hl => ?_) (fun y5 hly5 => ?_)
  · rfl
  · rfl
noncomputable def S.ref8_translations_k1 (a0 : TRouter) (i1 : Nat) (p3 : Bool) : Option (Unit ⊕ Int) :=
  bif !p3 then (some (.inr 1)) else (letS (bif (((a0.fNAT.getD i1 default).fKind) == 2) then S.ref8_ACL a0 ((a0.fNAT.getD i1 default).fList) else default) (fun r4 => bif (((a0.fNAT.getD i1 default).fKind) == 2) && (decide (r4 < 0)) then (some (.inr 5)) else none))
theorem s_ref8_translations_k1 (a0 : TRouter) (i1 : Nat) (p3 : Bool) (ha0 : L_TRouter a0) (hi1 : i1 < a0.fNAT.length) : M.ref8_translations_k1 a0 (i1 : Int) p3 = some (rdN (S.ref8_translations_k1 a0 i1 p3) i1) := by
  have hM := maxLen_eq
  have hni1 : a0.fNAT.length ≤ maxLen := (L_TRouter.fNAT ha0).1
  unfold M.ref8_translations_k1 S.ref8_translations_k1
  try simp only [Int.toNat_natCast]
  refine s_ifN (fun hb3 => ?_) (fun hb3 => ?_)
  · exact s_out
  · refine s_bindN (s_gc fun hg => (s_ref8_ACL a0 ((a0.fNAT.getD i1 default).fList) ha0 (L_TTranslation.fList (LL.getD (L_TRouter.fNAT ha0) L_TTranslation.dflt i1)))) (fun r4 her4 => ?_)
    refine s_ifN (fun hb4 => ?_) (fun hb4 => ?_)
    · exact s_out
    · exact s_up (by omega)
noncomputable def S.ref8_translations_l1 (a0 : TRouter) (i1 : Nat) : Option (Unit ⊕ Int) :=
  bif ((a0.fNAT.getD i1 default).fKind) == 1 then (S.ref8_translations_k1 a0 i1 (((((a0.fNAT.getD i1 default).fInside) != 0) && (((a0.fNAT.getD i1 default).fOutside) != 0)) && ((((a0.fNAT.getD i1 default).fKind) == ((a0.fNAT.getD i1 default).fKind)) && ((((a0.fNAT.getD i1 default).fInside) == ((a0.fNAT.getD i1 default).fInside)) && ((((a0.fNAT.getD i1 default).fOutside) == ((a0.fNAT.getD i1 default).fOutside)) && ((((a0.fNAT.getD i1 default).fProto) == 0) && ((((a0.fNAT.getD i1 default).fInsidePort) == 0) && ((((a0.fNAT.getD i1 default).fOutsidePort) == 0) && (strEq ((a0.fNAT.getD i1 default).fList) (⟨#[]⟩ : ByteArray) && ((((a0.fNAT.getD i1 default).fLo) == 0) && ((((a0.fNAT.getD i1 default).fHi) == 0) && true))))))))))) else (bif ((a0.fNAT.getD i1 default).fKind) == 2 then (S.ref8_translations_k1 a0 i1 ((((((a0.fNAT.getD i1 default).fLo) != 0) && (decide (((a0.fNAT.getD i1 default).fLo) ≤ ((a0.fNAT.getD i1 default).fHi)))) && (decide ((wr .u32 (((a0.fNAT.getD i1 default).fHi) - ((a0.fNAT.getD i1 default).fLo))) < 8))) && ((((a0.fNAT.getD i1 default).fKind) == ((a0.fNAT.getD i1 default).fKind)) && ((((a0.fNAT.getD i1 default).fInside) == 0) && ((((a0.fNAT.getD i1 default).fOutside) == 0) && ((((a0.fNAT.getD i1 default).fProto) == 0) && ((((a0.fNAT.getD i1 default).fInsidePort) == 0) && ((((a0.fNAT.getD i1 default).fOutsidePort) == 0) && (strEq ((a0.fNAT.getD i1 default).fList) ((a0.fNAT.getD i1 default).fList) && ((((a0.fNAT.getD i1 default).fLo) == ((a0.fNAT.getD i1 default).fLo)) && ((((a0.fNAT.getD i1 default).fHi) == ((a0.fNAT.getD i1 default).fHi)) && true))))))))))) else (bif ((a0.fNAT.getD i1 default).fKind) == 3 then (letS (bif (((((a0.fNAT.getD i1 default).fInside) != 0) && (((a0.fNAT.getD i1 default).fOutside) != 0)) && ((((a0.fNAT.getD i1 default).fProto) == 6) || (((a0.fNAT.getD i1 default).fProto) == 17))) then S.ref8_within ((a0.fNAT.getD i1 default).fInsidePort) 0 65535 else default) (fun r5 => letS (bif ((((((a0.fNAT.getD i1 default).fInside) != 0) && (((a0.fNAT.getD i1 default).fOutside) != 0)) && ((((a0.fNAT.getD i1 default).fProto) == 6) || (((a0.fNAT.getD i1 default).fProto) == 17))) && r5) then S.ref8_within ((a0.fNAT.getD i1 default).fOutsidePort) 0 65535 else default) (fun r6 => S.ref8_translations_k1 a0 i1 ((((((((((a0.fNAT.getD i1 default).fInside) != 0) && (((a0.fNAT.getD i1 default).fOutside) != 0)) && ((((a0.fNAT.getD i1 default).fProto) == 6) || (((a0.fNAT.getD i1 default).fProto) == 17))) && r5) && r6) && (strEq ((a0.fNAT.getD i1 default).fList) (⟨#[]⟩ : ByteArray))) && (((a0.fNAT.getD i1 default).fLo) == 0)) && (((a0.fNAT.getD i1 default).fHi) == 0))))) else (S.ref8_translations_k1 a0 i1 false)))
theorem s_ref8_translations_l1 (a0 : TRouter) (ha0 : L_TRouter a0) (i0 : Nat) : loopM (M.ref8_translations_l1 a0) (i0 : Int) = some (runN (S.ref8_translations_l1 a0) (.inl ()) i0 (a0.fNAT.length - i0)) := by
  have hM := maxLen_eq
  have hni1 : a0.fNAT.length ≤ maxLen := (L_TRouter.fNAT ha0).1
  refine loop_runN (n := a0.fNAT.length) (fun i1 hi1 => ?_) (fun m hm => ?_) i0
  · unfold M.ref8_translations_l1 S.ref8_translations_l1
    try simp only [Int.toNat_natCast]
    refine s_then (dt (by omega)) ?_
    refine s_gd (all_c (dt (by omega)) (all_c (dt (by omega)) all_n)) ?_
    refine s_ifN (fun hb2 => ?_) (fun hb2 => ?_)
    · exact s_ref8_translations_k1 a0 i1 (((((a0.fNAT.getD i1 default).fInside) != 0) && (((a0.fNAT.getD i1 default).fOutside) != 0)) && ((((a0.fNAT.getD i1 default).fKind) == ((a0.fNAT.getD i1 default).fKind)) && ((((a0.fNAT.getD i1 default).fInside) == ((a0.fNAT.getD i1 default).fInside)) && ((((a0.fNAT.getD i1 default).fOutside) == ((a0.fNAT.getD i1 default).fOutside)) && ((((a0.fNAT.getD i1 default).fProto) == 0) && ((((a0.fNAT.getD i1 default).fInsidePort) == 0) && ((((a0.fNAT.getD i1 default).fOutsidePort) == 0) && (strEq ((a0.fNAT.getD i1 default).fList) (⟨#[]⟩ : ByteArray) && ((((a0.fNAT.getD i1 default).fLo) == 0) && ((((a0.fNAT.getD i1 default).fHi) == 0) && true)))))))))) ha0 hi1
    · refine s_ifN (fun hb5 => ?_) (fun hb5 => ?_)
      · exact s_ref8_translations_k1 a0 i1 ((((((a0.fNAT.getD i1 default).fLo) != 0) && (decide (((a0.fNAT.getD i1 default).fLo) ≤ ((a0.fNAT.getD i1 default).fHi)))) && (decide ((wr .u32 (((a0.fNAT.getD i1 default).fHi) - ((a0.fNAT.getD i1 default).fLo))) < 8))) && ((((a0.fNAT.getD i1 default).fKind) == ((a0.fNAT.getD i1 default).fKind)) && ((((a0.fNAT.getD i1 default).fInside) == 0) && ((((a0.fNAT.getD i1 default).fOutside) == 0) && ((((a0.fNAT.getD i1 default).fProto) == 0) && ((((a0.fNAT.getD i1 default).fInsidePort) == 0) && ((((a0.fNAT.getD i1 default).fOutsidePort) == 0) && (strEq ((a0.fNAT.getD i1 default).fList) ((a0.fNAT.getD i1 default).fList) && ((((a0.fNAT.getD i1 default).fLo) == ((a0.fNAT.getD i1 default).fLo)) && ((((a0.fNAT.getD i1 default).fHi) == ((a0.fNAT.getD i1 default).fHi)) && true)))))))))) ha0 hi1
      · refine s_ifN (fun hb6 => ?_) (fun hb6 => ?_)
        · refine s_bindN (s_gc fun hg => (s_ref8_within ((a0.fNAT.getD i1 default).fInsidePort) 0 65535)) (fun r5 her5 => ?_)
          refine s_bindN (s_gc fun hg => (s_ref8_within ((a0.fNAT.getD i1 default).fOutsidePort) 0 65535)) (fun r6 her6 => ?_)
          exact s_ref8_translations_k1 a0 i1 ((((((((((a0.fNAT.getD i1 default).fInside) != 0) && (((a0.fNAT.getD i1 default).fOutside) != 0)) && ((((a0.fNAT.getD i1 default).fProto) == 6) || (((a0.fNAT.getD i1 default).fProto) == 17))) && r5) && r6) && (strEq ((a0.fNAT.getD i1 default).fList) (⟨#[]⟩ : ByteArray))) && (((a0.fNAT.getD i1 default).fLo) == 0)) && (((a0.fNAT.getD i1 default).fHi) == 0)) ha0 hi1
        · exact s_ref8_translations_k1 a0 i1 false ha0 hi1
  · unfold M.ref8_translations_l1
    try simp only [Int.toNat_natCast]
    exact s_else (decide_eq_false (by omega)) rfl
noncomputable def S.ref8_translations (a0 : TRouter) : Int :=
  bif decide ((a0.fNAT.length : Int) > 8) then 7 else (letS (runN (S.ref8_translations_l1 a0) (.inl ()) 0 a0.fNAT.length) (fun y7 => Sum.elim (fun _ => 0) (fun y9 => y9) y7))
theorem s_ref8_translations (a0 : TRouter) (ha0 : L_TRouter a0) : M.ref8_translations a0 = some (S.ref8_translations a0) := by
  have hM := maxLen_eq
  unfold M.ref8_translations S.ref8_translations
  refine s_if (fun hb1 => ?_) (fun hb1 => ?_)
  · rfl
  · refine s_bind (s_ref8_translations_l1 a0 ha0 0) (fun y7 hey7 => ?_)
    refine s_elim (fun _ hl => ?_) (fun y9 hly9 => ?_)
    · rfl
    · rfl
noncomputable def S.ref8_filters_l1 (a0 : TRouter) (i1 : Nat) : Option (Unit ⊕ Int) :=
  letS (bif (!strEq ((a0.fInterfaces.getD i1 default).fIn) (⟨#[]⟩ : ByteArray)) then S.ref8_ACL a0 ((a0.fInterfaces.getD i1 default).fIn) else default) (fun r3 => letS (bif ((!((!strEq ((a0.fInterfaces.getD i1 default).fIn) (⟨#[]⟩ : ByteArray)) && (decide (r3 < 0)))) && (!strEq ((a0.fInterfaces.getD i1 default).fOut) (⟨#[]⟩ : ByteArray))) then S.ref8_ACL a0 ((a0.fInterfaces.getD i1 default).fOut) else default) (fun r4 => bif ((!strEq ((a0.fInterfaces.getD i1 default).fIn) (⟨#[]⟩ : ByteArray)) && (decide (r3 < 0))) || ((!strEq ((a0.fInterfaces.getD i1 default).fOut) (⟨#[]⟩ : ByteArray)) && (decide (r4 < 0))) then (some (.inr 5)) else none))
theorem s_ref8_filters_l1 (a0 : TRouter) (ha0 : L_TRouter a0) (i0 : Nat) : loopM (M.ref8_filters_l1 a0) (i0 : Int) = some (runN (S.ref8_filters_l1 a0) (.inl ()) i0 (a0.fInterfaces.length - i0)) := by
  have hM := maxLen_eq
  have hni1 : a0.fInterfaces.length ≤ maxLen := (L_TRouter.fInterfaces ha0).1
  refine loop_runN (n := a0.fInterfaces.length) (fun i1 hi1 => ?_) (fun m hm => ?_) i0
  · unfold M.ref8_filters_l1 S.ref8_filters_l1
    try simp only [Int.toNat_natCast]
    refine s_then (dt (by omega)) ?_
    refine s_gd (all_c (dt (by omega)) (all_c (dt (by omega)) all_n)) ?_
    refine s_bindN (s_gc fun hg => (s_ref8_ACL a0 ((a0.fInterfaces.getD i1 default).fIn) ha0 (L_TInterface.fIn (LL.getD (L_TRouter.fInterfaces ha0) L_TInterface.dflt i1)))) (fun r3 her3 => ?_)
    refine s_bindN (s_gc fun hg => (s_ref8_ACL a0 ((a0.fInterfaces.getD i1 default).fOut) ha0 (L_TInterface.fOut (LL.getD (L_TRouter.fInterfaces ha0) L_TInterface.dflt i1)))) (fun r4 her4 => ?_)
    refine s_ifN (fun hb1 => ?_) (fun hb1 => ?_)
    · exact s_out
    · exact s_up (by omega)
  · unfold M.ref8_filters_l1
    try simp only [Int.toNat_natCast]
    exact s_else (decide_eq_false (by omega)) rfl
noncomputable def S.ref8_filters (a0 : TRouter) : Int :=
  letS (runN (S.ref8_filters_l1 a0) (.inl ()) 0 a0.fInterfaces.length) (fun y5 => Sum.elim (fun _ => 0) (fun y7 => y7) y5)
theorem s_ref8_filters (a0 : TRouter) (ha0 : L_TRouter a0) : M.ref8_filters a0 = some (S.ref8_filters a0) := by
  have hM := maxLen_eq
  unfold M.ref8_filters S.ref8_filters
  refine s_bind (s_ref8_filters_l1 a0 ha0 0) (fun y5 hey5 => ?_)
  refine s_elim (fun _ hl => ?_) (fun y7 hly7 => ?_)
  · rfl
  · rfl
noncomputable def S.ref8_Address_l1 (a0 : TRouter) (a1 : Int) (i1 : Nat) : Option (Unit ⊕ Int) :=
  bif (((a0.fInterfaces.getD i1 default).fLen) != 0) && (((a0.fInterfaces.getD i1 default).fAddr) == a1) then (some (.inr (i1 : Int))) else none
theorem s_ref8_Address_l1 (a0 : TRouter) (a1 : Int) (ha0 : L_TRouter a0) (i0 : Nat) : loopM (M.ref8_Address_l1 a0 a1) (i0 : Int) = some (runN (S.ref8_Address_l1 a0 a1) (.inl ()) i0 (a0.fInterfaces.length - i0)) := by
  have hM := maxLen_eq
  have hni1 : a0.fInterfaces.length ≤ maxLen := (L_TRouter.fInterfaces ha0).1
  refine loop_runN (n := a0.fInterfaces.length) (fun i1 hi1 => ?_) (fun m hm => ?_) i0
  · unfold M.ref8_Address_l1 S.ref8_Address_l1
    try simp only [Int.toNat_natCast]
    refine s_then (dt (by omega)) ?_
    refine s_gd (all_c (dt (by omega)) (all_c (dt (by omega)) (all_c (s_guard fun hg => (dt (by first | omega | (simp; omega) | (simp at *; omega)))) (all_c (s_guard fun hg => (dt (by first | omega | (simp; omega) | (simp at *; omega)))) all_n)))) ?_
    refine s_ifN (fun hb1 => ?_) (fun hb1 => ?_)
    · exact s_out
    · exact s_up (by omega)
  · unfold M.ref8_Address_l1
    try simp only [Int.toNat_natCast]
    exact s_else (decide_eq_false (by omega)) rfl
noncomputable def S.ref8_Address (a0 : TRouter) (a1 : Int) : Int :=
  letS (runN (S.ref8_Address_l1 a0 a1) (.inl ()) 0 a0.fInterfaces.length) (fun y3 => Sum.elim (fun _ => -1) (fun y5 => y5) y3)
theorem s_ref8_Address (a0 : TRouter) (a1 : Int) (ha0 : L_TRouter a0) : M.ref8_Address a0 a1 = some (S.ref8_Address a0 a1) := by
  have hM := maxLen_eq
  unfold M.ref8_Address S.ref8_Address
  refine s_bind (s_ref8_Address_l1 a0 a1 ha0 0) (fun y3 hey3 => ?_)
  refine s_elim (fun _ hl => ?_) (fun y5 hly5 => ?_)
  · rfl
  · rfl
noncomputable def S.ref8_Interface_l1 (a0 : TRouter) (a1 : ByteArray) (i1 : Nat) : Option (Unit ⊕ Int) :=
  bif strEq ((a0.fInterfaces.getD i1 default).fName) a1 then (some (.inr (i1 : Int))) else none
theorem s_ref8_Interface_l1 (a0 : TRouter) (a1 : ByteArray) (ha0 : L_TRouter a0) (ha1 : a1.size ≤ maxLen) (i0 : Nat) : loopM (M.ref8_Interface_l1 a0 a1) (i0 : Int) = some (runN (S.ref8_Interface_l1 a0 a1) (.inl ()) i0 (a0.fInterfaces.length - i0)) := by
  have hM := maxLen_eq
  have hni1 : a0.fInterfaces.length ≤ maxLen := (L_TRouter.fInterfaces ha0).1
  refine loop_runN (n := a0.fInterfaces.length) (fun i1 hi1 => ?_) (fun m hm => ?_) i0
  · unfold M.ref8_Interface_l1 S.ref8_Interface_l1
    try simp only [Int.toNat_natCast]
    refine s_then (dt (by omega)) ?_
    refine s_gd (all_c (dt (by omega)) (all_c (dt (by omega)) all_n)) ?_
    refine s_ifN (fun hb1 => ?_) (fun hb1 => ?_)
    · exact s_out
    · exact s_up (by omega)
  · unfold M.ref8_Interface_l1
    try simp only [Int.toNat_natCast]
    exact s_else (decide_eq_false (by omega)) rfl
noncomputable def S.ref8_Interface (a0 : TRouter) (a1 : ByteArray) : Int :=
  letS (runN (S.ref8_Interface_l1 a0 a1) (.inl ()) 0 a0.fInterfaces.length) (fun y3 => Sum.elim (fun _ => -1) (fun y5 => y5) y3)
theorem s_ref8_Interface (a0 : TRouter) (a1 : ByteArray) (ha0 : L_TRouter a0) (ha1 : a1.size ≤ maxLen) : M.ref8_Interface a0 a1 = some (S.ref8_Interface a0 a1) := by
  have hM := maxLen_eq
  unfold M.ref8_Interface S.ref8_Interface
  refine s_bind (s_ref8_Interface_l1 a0 a1 ha0 ha1 0) (fun y3 hey3 => ?_)
  refine s_elim (fun _ hl => ?_) (fun y5 hly5 => ?_)
  · rfl
  · rfl
theorem rng_ref8_Interface (a0 : TRouter) (a1 : ByteArray) : S.ref8_Interface a0 a1 < (a0.fInterfaces.length : Int) := by
  unfold S.ref8_Interface
  simp only [letS]
  exact idx_lt (fun i => by unfold S.ref8_Interface_l1; cases strEq (a0.fInterfaces.getD i default).fName a1 <;> simp) _
noncomputable def S.ref8_statics_l2 (a0 : TRouter) (i1 : Nat) (i11 : Nat) : Option (Unit ⊕ Int) :=
  bif (((((a0.fStatics.getD i11 default).fPrefix).fAddr) == (((a0.fStatics.getD i1 default).fPrefix).fAddr)) && (((((a0.fStatics.getD i11 default).fPrefix).fLen) == (((a0.fStatics.getD i1 default).fPrefix).fLen)) && true)) && (((a0.fStatics.getD i11 default).fAdmin) == ((a0.fStatics.getD i1 default).fAdmin)) then (some (.inr 6)) else none
theorem s_ref8_statics_l2 (a0 : TRouter) (i1 : Nat) (ha0 : L_TRouter a0) (hi1 : i1 < a0.fStatics.length) (i0 : Nat) : loopM (M.ref8_statics_l2 a0 (i1 : Int)) (i0 : Int) = some (runN (S.ref8_statics_l2 a0 i1) (.inl ()) i0 (i1 - i0)) := by
  have hM := maxLen_eq
  have hni1 : a0.fStatics.length ≤ maxLen := (L_TRouter.fStatics ha0).1
  have hni11 : i1 ≤ maxLen := (by omega)
  refine loop_runN (n := i1) (fun i11 hi11 => ?_) (fun m hm => ?_) i0
  · unfold M.ref8_statics_l2 S.ref8_statics_l2
    try simp only [Int.toNat_natCast]
    refine s_then (dt (by omega)) ?_
    refine s_gd (all_c (dt (by omega)) (all_c (dt (by omega)) (all_c (s_guard fun hg => (dt (by first | omega | (simp; omega) | (simp at *; omega)))) (all_c (s_guard fun hg => (dt (by first | omega | (simp; omega) | (simp at *; omega)))) all_n)))) ?_
    refine s_ifN (fun hb9 => ?_) (fun hb9 => ?_)
    · exact s_out
    · exact s_up (by omega)
  · unfold M.ref8_statics_l2
    try simp only [Int.toNat_natCast]
    exact s_else (decide_eq_false (by omega)) rfl
noncomputable def S.ref8_statics_k4 (a0 : TRouter) (i1 : Nat) (_p10 : Unit) : Option (Unit ⊕ Int) :=
  letS (runN (S.ref8_statics_l2 a0 i1) (.inl ()) 0 i1) (fun y13 => Sum.elim (fun _ => none) (fun y15 => some (.inr y15)) y13)
theorem s_ref8_statics_k4 (a0 : TRouter) (i1 : Nat) (_p10 : Unit) (ha0 : L_TRouter a0) (hi1 : i1 < a0.fStatics.length) : M.ref8_statics_k4 a0 (i1 : Int) _p10 = some (rdN (S.ref8_statics_k4 a0 i1 _p10) i1) := by
  have hM := maxLen_eq
  have hni1 : a0.fStatics.length ≤ maxLen := (L_TRouter.fStatics ha0).1
  unfold M.ref8_statics_k4 S.ref8_statics_k4
  try simp only [Int.toNat_natCast]
  refine s_bindN (s_ref8_statics_l2 a0 i1 ha0 hi1 0) (fun y13 hey13 => ?_)
  refine s_elimN (fun _ hl => ?_) (fun y15 hly15 => ?_)
  · exact s_up (by omega)
  · exact s_out
noncomputable def S.ref8_statics_k3 (a0 : TRouter) (i1 : Nat) (p5 : Int) : Option (Unit ⊕ Int) :=
  letS (S.ref4_Valid ((a0.fStatics.getD i1 default).fPrefix)) (fun r6 => letS (bif ((!((!r6) || (p5 != 1))) && (((a0.fStatics.getD i1 default).fNext) != 0)) then S.ref8_Address a0 ((a0.fStatics.getD i1 default).fNext) else default) (fun r7 => letS (bif (!(((!r6) || (p5 != 1)) || ((((a0.fStatics.getD i1 default).fNext) != 0) && (decide (r7 ≥ 0))))) then S.ref8_within ((a0.fStatics.getD i1 default).fAdmin) 1 255 else default) (fun r8 => letS (bif (!((((!r6) || (p5 != 1)) || ((((a0.fStatics.getD i1 default).fNext) != 0) && (decide (r7 ≥ 0)))) || (!r8))) then S.ref8_within ((a0.fStatics.getD i1 default).fTag) 0 65535 else default) (fun r9 => bif ((((!r6) || (p5 != 1)) || ((((a0.fStatics.getD i1 default).fNext) != 0) && (decide (r7 ≥ 0)))) || (!r8)) || (!r9) then (some (.inr 1)) else (bif !strEq ((a0.fStatics.getD i1 default).fIface) (⟨#[]⟩ : ByteArray) then (letS (S.ref8_Interface a0 ((a0.fStatics.getD i1 default).fIface)) (fun r16 => bif decide (r16 < 0) then (some (.inr 5)) else (bif ((a0.fInterfaces.getD r16.toNat default).fLen) == 0 then (some (.inr 1)) else (S.ref8_statics_k4 a0 i1 ())))) else (S.ref8_statics_k4 a0 i1 ()))))))
theorem s_ref8_statics_k3 (a0 : TRouter) (i1 : Nat) (p5 : Int) (ha0 : L_TRouter a0) (hi1 : i1 < a0.fStatics.length) : M.ref8_statics_k3 a0 (i1 : Int) p5 = some (rdN (S.ref8_statics_k3 a0 i1 p5) i1) := by
  have hM := maxLen_eq
  have hni1 : a0.fStatics.length ≤ maxLen := (L_TRouter.fStatics ha0).1
  unfold M.ref8_statics_k3 S.ref8_statics_k3
  try simp only [Int.toNat_natCast]
  refine s_bindN (s_ref4_Valid ((a0.fStatics.getD i1 default).fPrefix)) (fun r6 her6 => ?_)
  refine s_bindN (s_gc fun hg => (s_ref8_Address a0 ((a0.fStatics.getD i1 default).fNext) ha0)) (fun r7 her7 => ?_)
  refine s_bindN (s_gc fun hg => (s_ref8_within ((a0.fStatics.getD i1 default).fAdmin) 1 255)) (fun r8 her8 => ?_)
  refine s_bindN (s_gc fun hg => (s_ref8_within ((a0.fStatics.getD i1 default).fTag) 0 65535)) (fun r9 her9 => ?_)
  refine s_ifN (fun hb5 => ?_) (fun hb5 => ?_)
  · exact s_out
  · refine s_ifN (fun hb6 => ?_) (fun hb6 => ?_)
    · refine s_bindN (s_ref8_Interface a0 ((a0.fStatics.getD i1 default).fIface) ha0 (L_TStaticRoute.fIface (LL.getD (L_TRouter.fStatics ha0) L_TStaticRoute.dflt i1))) (fun r16 her16 => ?_)
      have hrr16 := rng_ref8_Interface a0 ((a0.fStatics.getD i1 default).fIface)
      refine s_ifN (fun hb7 => ?_) (fun hb7 => ?_)
      · exact s_out
      · refine s_gd (all_c (dt (by first | omega | (simp; omega) | (simp at *; omega))) (all_c (dt (by first | omega | (simp; omega) | (simp at *; omega))) all_n)) ?_
        refine s_ifN (fun hb8 => ?_) (fun hb8 => ?_)
        · exact s_out
        · exact s_ref8_statics_k4 a0 i1 () ha0 hi1
    · exact s_ref8_statics_k4 a0 i1 () ha0 hi1
noncomputable def S.ref8_statics_k2 (a0 : TRouter) (i1 : Nat) (p4 : Int) : Option (Unit ⊕ Int) :=
  bif (a0.fStatics.getD i1 default).fDiscard then (S.ref8_statics_k3 a0 i1 (wr .i64 (p4 + 1))) else (S.ref8_statics_k3 a0 i1 p4)
theorem s_ref8_statics_k2 (a0 : TRouter) (i1 : Nat) (p4 : Int) (ha0 : L_TRouter a0) (hi1 : i1 < a0.fStatics.length) : M.ref8_statics_k2 a0 (i1 : Int) p4 = some (rdN (S.ref8_statics_k2 a0 i1 p4) i1) := by
  have hM := maxLen_eq
  have hni1 : a0.fStatics.length ≤ maxLen := (L_TRouter.fStatics ha0).1
  unfold M.ref8_statics_k2 S.ref8_statics_k2
  try simp only [Int.toNat_natCast]
  refine s_ifN (fun hb4 => ?_) (fun hb4 => ?_)
  · exact s_ref8_statics_k3 a0 i1 (wr .i64 (p4 + 1)) ha0 hi1
  · exact s_ref8_statics_k3 a0 i1 p4 ha0 hi1
noncomputable def S.ref8_statics_k1 (a0 : TRouter) (i1 : Nat) (p3 : Int) : Option (Unit ⊕ Int) :=
  bif !strEq ((a0.fStatics.getD i1 default).fIface) (⟨#[]⟩ : ByteArray) then (S.ref8_statics_k2 a0 i1 (wr .i64 (p3 + 1))) else (S.ref8_statics_k2 a0 i1 p3)
theorem s_ref8_statics_k1 (a0 : TRouter) (i1 : Nat) (p3 : Int) (ha0 : L_TRouter a0) (hi1 : i1 < a0.fStatics.length) : M.ref8_statics_k1 a0 (i1 : Int) p3 = some (rdN (S.ref8_statics_k1 a0 i1 p3) i1) := by
  have hM := maxLen_eq
  have hni1 : a0.fStatics.length ≤ maxLen := (L_TRouter.fStatics ha0).1
  unfold M.ref8_statics_k1 S.ref8_statics_k1
  try simp only [Int.toNat_natCast]
  refine s_ifN (fun hb3 => ?_) (fun hb3 => ?_)
  · exact s_ref8_statics_k2 a0 i1 (wr .i64 (p3 + 1)) ha0 hi1
  · exact s_ref8_statics_k2 a0 i1 p3 ha0 hi1
noncomputable def S.ref8_statics_l1 (a0 : TRouter) (i1 : Nat) : Option (Unit ⊕ Int) :=
  bif ((a0.fStatics.getD i1 default).fNext) != 0 then (S.ref8_statics_k1 a0 i1 1) else (S.ref8_statics_k1 a0 i1 0)
theorem s_ref8_statics_l1 (a0 : TRouter) (ha0 : L_TRouter a0) (i0 : Nat) : loopM (M.ref8_statics_l1 a0) (i0 : Int) = some (runN (S.ref8_statics_l1 a0) (.inl ()) i0 (a0.fStatics.length - i0)) := by
  have hM := maxLen_eq
  have hni1 : a0.fStatics.length ≤ maxLen := (L_TRouter.fStatics ha0).1
  refine loop_runN (n := a0.fStatics.length) (fun i1 hi1 => ?_) (fun m hm => ?_) i0
  · unfold M.ref8_statics_l1 S.ref8_statics_l1
    try simp only [Int.toNat_natCast]
    refine s_then (dt (by omega)) ?_
    refine s_gd (all_c (dt (by omega)) (all_c (dt (by omega)) all_n)) ?_
    refine s_ifN (fun hb2 => ?_) (fun hb2 => ?_)
    · exact s_ref8_statics_k1 a0 i1 1 ha0 hi1
    · exact s_ref8_statics_k1 a0 i1 0 ha0 hi1
  · unfold M.ref8_statics_l1
    try simp only [Int.toNat_natCast]
    exact s_else (decide_eq_false (by omega)) rfl
noncomputable def S.ref8_statics (a0 : TRouter) : Int :=
  bif decide ((a0.fStatics.length : Int) > 16) then 7 else (letS (runN (S.ref8_statics_l1 a0) (.inl ()) 0 a0.fStatics.length) (fun y17 => Sum.elim (fun _ => 0) (fun y19 => y19) y17))
theorem s_ref8_statics (a0 : TRouter) (ha0 : L_TRouter a0) : M.ref8_statics a0 = some (S.ref8_statics a0) := by
  have hM := maxLen_eq
  unfold M.ref8_statics S.ref8_statics
  refine s_if (fun hb1 => ?_) (fun hb1 => ?_)
  · rfl
  · refine s_bind (s_ref8_statics_l1 a0 ha0 0) (fun y17 hey17 => ?_)
    refine s_elim (fun _ hl => ?_) (fun y19 hly19 => ?_)
    · rfl
    · rfl
noncomputable def S.ref8_RouteMap_l1 (a0 : TRouter) (a1 : ByteArray) (i1 : Nat) : Option (Unit ⊕ Int) :=
  bif strEq ((a0.fMaps.getD i1 default).fName) a1 then (some (.inr (i1 : Int))) else none
theorem s_ref8_RouteMap_l1 (a0 : TRouter) (a1 : ByteArray) (ha0 : L_TRouter a0) (ha1 : a1.size ≤ maxLen) (i0 : Nat) : loopM (M.ref8_RouteMap_l1 a0 a1) (i0 : Int) = some (runN (S.ref8_RouteMap_l1 a0 a1) (.inl ()) i0 (a0.fMaps.length - i0)) := by
  have hM := maxLen_eq
  have hni1 : a0.fMaps.length ≤ maxLen := (L_TRouter.fMaps ha0).1
  refine loop_runN (n := a0.fMaps.length) (fun i1 hi1 => ?_) (fun m hm => ?_) i0
  · unfold M.ref8_RouteMap_l1 S.ref8_RouteMap_l1
    try simp only [Int.toNat_natCast]
    refine s_then (dt (by omega)) ?_
    refine s_gd (all_c (dt (by omega)) (all_c (dt (by omega)) all_n)) ?_
    refine s_ifN (fun hb1 => ?_) (fun hb1 => ?_)
    · exact s_out
    · exact s_up (by omega)
  · unfold M.ref8_RouteMap_l1
    try simp only [Int.toNat_natCast]
    exact s_else (decide_eq_false (by omega)) rfl
noncomputable def S.ref8_RouteMap (a0 : TRouter) (a1 : ByteArray) : Int :=
  letS (runN (S.ref8_RouteMap_l1 a0 a1) (.inl ()) 0 a0.fMaps.length) (fun y3 => Sum.elim (fun _ => -1) (fun y5 => y5) y3)
theorem s_ref8_RouteMap (a0 : TRouter) (a1 : ByteArray) (ha0 : L_TRouter a0) (ha1 : a1.size ≤ maxLen) : M.ref8_RouteMap a0 a1 = some (S.ref8_RouteMap a0 a1) := by
  have hM := maxLen_eq
  unfold M.ref8_RouteMap S.ref8_RouteMap
  refine s_bind (s_ref8_RouteMap_l1 a0 a1 ha0 ha1 0) (fun y3 hey3 => ?_)
  refine s_elim (fun _ hl => ?_) (fun y5 hly5 => ?_)
  · rfl
  · rfl
theorem rng_ref8_RouteMap (a0 : TRouter) (a1 : ByteArray) : S.ref8_RouteMap a0 a1 < (a0.fMaps.length : Int) := by
  unfold S.ref8_RouteMap
  simp only [letS]
  exact idx_lt (fun i => by unfold S.ref8_RouteMap_l1; cases strEq (a0.fMaps.getD i default).fName a1 <;> simp) _
noncomputable def S.ref8_redistributions_l2 (a1 : List TRedist) (i1 : Nat) (i7 : Nat) : Option (Unit ⊕ Int) :=
  bif ((a1.getD i7 default).fFrom) == ((a1.getD i1 default).fFrom) then (some (.inr 4)) else none
theorem s_ref8_redistributions_l2 (a1 : List TRedist) (i1 : Nat) (ha1 : LL L_TRedist a1) (hi1 : i1 < a1.length) (i0 : Nat) : loopM (M.ref8_redistributions_l2 a1 (i1 : Int)) (i0 : Int) = some (runN (S.ref8_redistributions_l2 a1 i1) (.inl ()) i0 (i1 - i0)) := by
  have hM := maxLen_eq
  have hni1 : a1.length ≤ maxLen := ha1.1
  have hni7 : i1 ≤ maxLen := (by omega)
  refine loop_runN (n := i1) (fun i7 hi7 => ?_) (fun m hm => ?_) i0
  · unfold M.ref8_redistributions_l2 S.ref8_redistributions_l2
    try simp only [Int.toNat_natCast]
    refine s_then (dt (by omega)) ?_
    refine s_gd (all_c (dt (by omega)) (all_c (dt (by omega)) all_n)) ?_
    refine s_ifN (fun hb5 => ?_) (fun hb5 => ?_)
    · exact s_out
    · exact s_up (by omega)
  · unfold M.ref8_redistributions_l2
    try simp only [Int.toNat_natCast]
    exact s_else (decide_eq_false (by omega)) rfl
noncomputable def S.ref8_redistributions_l1 (a0 : TRouter) (a1 : List TRedist) (a2 : Int) (a3 : Int) (a4 : Int) (i1 : Nat) : Option (Unit ⊕ Int) :=
  letS (S.ref8_within ((a1.getD i1 default).fFrom) 1 5) (fun r3 => letS (bif (!((!r3) || (((a1.getD i1 default).fFrom) == a2))) then S.ref8_within ((a1.getD i1 default).fMetric) a3 a4 else default) (fun r4 => letS (bif (!(((!r3) || (((a1.getD i1 default).fFrom) == a2)) || (!r4))) then S.ref8_within ((a1.getD i1 default).fTag) 0 65535 else default) (fun r5 => bif (((!r3) || (((a1.getD i1 default).fFrom) == a2)) || (!r4)) || (!r5) then (some (.inr 1)) else (bif (((a2 == 3) && (((a1.getD i1 default).fType) != 1)) && (((a1.getD i1 default).fType) != 2)) || ((a2 != 3) && (((a1.getD i1 default).fType) != 0)) then (some (.inr 1)) else (letS (bif (!strEq ((a1.getD i1 default).fMap) (⟨#[]⟩ : ByteArray)) then S.ref8_RouteMap a0 ((a1.getD i1 default).fMap) else default) (fun r6 => bif (!strEq ((a1.getD i1 default).fMap) (⟨#[]⟩ : ByteArray)) && (decide (r6 < 0)) then (some (.inr 5)) else (letS (runN (S.ref8_redistributions_l2 a1 i1) (.inl ()) 0 i1) (fun y9 => Sum.elim (fun _ => none) (fun y11 => some (.inr y11)) y9))))))))
theorem s_ref8_redistributions_l1 (a0 : TRouter) (a1 : List TRedist) (a2 : Int) (a3 : Int) (a4 : Int) (ha0 : L_TRouter a0) (ha1 : LL L_TRedist a1) (i0 : Nat) : loopM (M.ref8_redistributions_l1 a0 a1 a2 a3 a4) (i0 : Int) = some (runN (S.ref8_redistributions_l1 a0 a1 a2 a3 a4) (.inl ()) i0 (a1.length - i0)) := by
  have hM := maxLen_eq
  have hni1 : a1.length ≤ maxLen := ha1.1
  refine loop_runN (n := a1.length) (fun i1 hi1 => ?_) (fun m hm => ?_) i0
  · unfold M.ref8_redistributions_l1 S.ref8_redistributions_l1
    try simp only [Int.toNat_natCast]
    refine s_then (dt (by omega)) ?_
    refine s_gd (all_c (dt (by omega)) (all_c (dt (by omega)) all_n)) ?_
    refine s_bindN (s_ref8_within ((a1.getD i1 default).fFrom) 1 5) (fun r3 her3 => ?_)
    refine s_bindN (s_gc fun hg => (s_ref8_within ((a1.getD i1 default).fMetric) a3 a4)) (fun r4 her4 => ?_)
    refine s_bindN (s_gc fun hg => (s_ref8_within ((a1.getD i1 default).fTag) 0 65535)) (fun r5 her5 => ?_)
    refine s_ifN (fun hb2 => ?_) (fun hb2 => ?_)
    · exact s_out
    · refine s_ifN (fun hb3 => ?_) (fun hb3 => ?_)
      · exact s_out
      · refine s_bindN (s_gc fun hg => (s_ref8_RouteMap a0 ((a1.getD i1 default).fMap) ha0 (L_TRedist.fMap (LL.getD ha1 L_TRedist.dflt i1)))) (fun r6 her6 => ?_)
        have hrr6 := rng_ref8_RouteMap a0 ((a1.getD i1 default).fMap)
        refine s_ifN (fun hb4 => ?_) (fun hb4 => ?_)
        · exact s_out
        · refine s_bindN (s_ref8_redistributions_l2 a1 i1 ha1 hi1 0) (fun y9 hey9 => ?_)
          refine s_elimN (fun _ hl => ?_) (fun y11 hly11 => ?_)
          · exact s_up (by omega)
          · exact s_out
  · unfold M.ref8_redistributions_l1
    try simp only [Int.toNat_natCast]
    exact s_else (decide_eq_false (by omega)) rfl
noncomputable def S.ref8_redistributions (a0 : TRouter) (a1 : List TRedist) (a2 : Int) (a3 : Int) (a4 : Int) : Int :=
  bif decide ((a1.length : Int) > 4) then 7 else (letS (runN (S.ref8_redistributions_l1 a0 a1 a2 a3 a4) (.inl ()) 0 a1.length) (fun y12 => Sum.elim (fun _ => 0) (fun y14 => y14) y12))
theorem s_ref8_redistributions (a0 : TRouter) (a1 : List TRedist) (a2 : Int) (a3 : Int) (a4 : Int) (ha0 : L_TRouter a0) (ha1 : LL L_TRedist a1) : M.ref8_redistributions a0 a1 a2 a3 a4 = some (S.ref8_redistributions a0 a1 a2 a3 a4) := by
  have hM := maxLen_eq
  unfold M.ref8_redistributions S.ref8_redistributions
  refine s_if (fun hb1 => ?_) (fun hb1 => ?_)
  · rfl
  · refine s_bind (s_ref8_redistributions_l1 a0 a1 a2 a3 a4 ha0 ha1 0) (fun y12 hey12 => ?_)
    refine s_elim (fun _ hl => ?_) (fun y14 hly14 => ?_)
    · rfl
    · rfl
noncomputable def S.ref8_linkState_l2 (a0 : TRouter) (i2 : Nat) (i6 : Nat) : Option (Unit ⊕ Int) :=
  letS (bif (((a0.fLS.fRanges.getD i6 default).fArea) == ((a0.fLS.fRanges.getD i2 default).fArea)) then S.ref4_Overlaps ((a0.fLS.fRanges.getD i6 default).fPrefix) ((a0.fLS.fRanges.getD i2 default).fPrefix) else default) (fun r8 => bif (((a0.fLS.fRanges.getD i6 default).fArea) == ((a0.fLS.fRanges.getD i2 default).fArea)) && r8 then (some (.inr 6)) else none)
theorem s_ref8_linkState_l2 (a0 : TRouter) (i2 : Nat) (ha0 : L_TRouter a0) (hi2 : i2 < a0.fLS.fRanges.length) (i0 : Nat) : loopM (M.ref8_linkState_l2 a0 (i2 : Int)) (i0 : Int) = some (runN (S.ref8_linkState_l2 a0 i2) (.inl ()) i0 (i2 - i0)) := by
  have hM := maxLen_eq
  have hni2 : a0.fLS.fRanges.length ≤ maxLen := (L_TLinkState.fRanges (L_TRouter.fLS ha0))
  have hni6 : i2 ≤ maxLen := (by omega)
  refine loop_runN (n := i2) (fun i6 hi6 => ?_) (fun m hm => ?_) i0
  · unfold M.ref8_linkState_l2 S.ref8_linkState_l2
    try simp only [Int.toNat_natCast]
    refine s_then (dt (by omega)) ?_
    refine s_bindN (s_gc fun hg => (s_ref4_Overlaps ((a0.fLS.fRanges.getD i6 default).fPrefix) ((a0.fLS.fRanges.getD i2 default).fPrefix))) (fun r8 her8 => ?_)
    refine s_gd (all_c (dt (by omega)) (all_c (dt (by omega)) (all_c (dt (by omega)) (all_c (dt (by omega)) (all_c (s_guard fun hg => (dt (by first | omega | (simp; omega) | (simp at *; omega)))) (all_c (s_guard fun hg => (dt (by first | omega | (simp; omega) | (simp at *; omega)))) (all_c (s_guard fun hg => (dt (by first | omega | (simp; omega) | (simp at *; omega)))) (all_c (s_guard fun hg => (dt (by first | omega | (simp; omega) | (simp at *; omega)))) all_n)))))))) ?_
    refine s_ifN (fun hb6 => ?_) (fun hb6 => ?_)
    · exact s_out
    · exact s_up (by omega)
  · unfold M.ref8_linkState_l2
    try simp only [Int.toNat_natCast]
    exact s_else (decide_eq_false (by omega)) rfl
noncomputable def S.ref8_linkState_l1 (a0 : TRouter) (i2 : Nat) : Option (Unit ⊕ Int) :=
  letS (S.ref8_within ((a0.fLS.fRanges.getD i2 default).fArea) 0 255) (fun r4 => letS (bif (!(!r4)) then S.ref4_Valid ((a0.fLS.fRanges.getD i2 default).fPrefix) else default) (fun r5 => bif (!r4) || (!r5) then (some (.inr 1)) else (letS (runN (S.ref8_linkState_l2 a0 i2) (.inl ()) 0 i2) (fun y9 => Sum.elim (fun _ => none) (fun y11 => some (.inr y11)) y9))))
theorem s_ref8_linkState_l1 (a0 : TRouter) (ha0 : L_TRouter a0) (i0 : Nat) : loopM (M.ref8_linkState_l1 a0) (i0 : Int) = some (runN (S.ref8_linkState_l1 a0) (.inl ()) i0 (a0.fLS.fRanges.length - i0)) := by
  have hM := maxLen_eq
  have hni2 : a0.fLS.fRanges.length ≤ maxLen := (L_TLinkState.fRanges (L_TRouter.fLS ha0))
  refine loop_runN (n := a0.fLS.fRanges.length) (fun i2 hi2 => ?_) (fun m hm => ?_) i0
  · unfold M.ref8_linkState_l1 S.ref8_linkState_l1
    try simp only [Int.toNat_natCast]
    refine s_then (dt (by omega)) ?_
    refine s_bindN (s_ref8_within ((a0.fLS.fRanges.getD i2 default).fArea) 0 255) (fun r4 her4 => ?_)
    refine s_bindN (s_gc fun hg => (s_ref4_Valid ((a0.fLS.fRanges.getD i2 default).fPrefix))) (fun r5 her5 => ?_)
    refine s_gd (all_c (dt (by omega)) (all_c (dt (by omega)) (all_c (s_guard fun hg => (dt (by first | omega | (simp; omega) | (simp at *; omega)))) (all_c (s_guard fun hg => (dt (by first | omega | (simp; omega) | (simp at *; omega)))) all_n)))) ?_
    refine s_ifN (fun hb5 => ?_) (fun hb5 => ?_)
    · exact s_out
    · refine s_bindN (s_ref8_linkState_l2 a0 i2 ha0 hi2 0) (fun y9 hey9 => ?_)
      refine s_elimN (fun _ hl => ?_) (fun y11 hly11 => ?_)
      · exact s_up (by omega)
      · exact s_out
  · unfold M.ref8_linkState_l1
    try simp only [Int.toNat_natCast]
    exact s_else (decide_eq_false (by omega)) rfl
noncomputable def S.ref8_linkState (a0 : TRouter) : Int :=
  bif !a0.fLS.fOn then (bif ((a0.fLS.fAdmin != 0) || (decide ((a0.fLS.fRanges.length : Int) > 0))) || (decide ((a0.fLS.fRedist.length : Int) > 0)) then 1 else 0) else (letS (S.ref8_within a0.fLS.fAdmin 1 255) (fun r1 => bif !r1 then 1 else (bif decide ((a0.fLS.fRanges.length : Int) > 4) then 7 else (letS (runN (S.ref8_linkState_l1 a0) (.inl ()) 0 a0.fLS.fRanges.length) (fun y12 => Sum.elim (fun _ => letS (S.ref8_redistributions a0 a0.fLS.fRedist 3 0 16777215) (fun r15 => r15)) (fun y14 => y14) y12)))))
theorem s_ref8_linkState (a0 : TRouter) (ha0 : L_TRouter a0) : M.ref8_linkState a0 = some (S.ref8_linkState a0) := by
  have hM := maxLen_eq
  unfold M.ref8_linkState S.ref8_linkState
  refine s_if (fun hb1 => ?_) (fun hb1 => ?_)
  · refine s_if (fun hb2 => ?_) (fun hb2 => ?_)
    · rfl
    · rfl
  · refine s_bind (s_ref8_within a0.fLS.fAdmin 1 255) (fun r1 her1 => ?_)
    refine s_if (fun hb3 => ?_) (fun hb3 => ?_)
    · rfl
    · refine s_if (fun hb4 => ?_) (fun hb4 => ?_)
      · rfl
      · refine s_bind (s_ref8_linkState_l1 a0 ha0 0) (fun y12 hey12 => ?_)
        refine s_elim (fun _ hl => ?_) (fun y14 hly14 => ?_)
        · refine s_bind (s_ref8_redistributions a0 a0.fLS.fRedist 3 0 16777215 ha0 (L_TLinkState.fRedist (L_TRouter.fLS ha0))) (fun r15 her15 => ?_)
          rfl
        · rfl
noncomputable def S.ref8_distance (a0 : TRouter) : Int :=
  bif !a0.fDV.fOn then (bif (((a0.fDV.fAdmin != 0) || (!strEq a0.fDV.fIn (⟨#[]⟩ : ByteArray))) || (!strEq a0.fDV.fOut (⟨#[]⟩ : ByteArray))) || (decide ((a0.fDV.fRedist.length : Int) > 0)) then 1 else 0) else (letS (S.ref8_within a0.fDV.fAdmin 1 255) (fun r1 => bif !r1 then 1 else (letS (bif (!strEq a0.fDV.fIn (⟨#[]⟩ : ByteArray)) then S.ref8_PrefixList a0 a0.fDV.fIn else default) (fun r2 => letS (bif ((!((!strEq a0.fDV.fIn (⟨#[]⟩ : ByteArray)) && (decide (r2 < 0)))) && (!strEq a0.fDV.fOut (⟨#[]⟩ : ByteArray))) then S.ref8_PrefixList a0 a0.fDV.fOut else default) (fun r3 => bif ((!strEq a0.fDV.fIn (⟨#[]⟩ : ByteArray)) && (decide (r2 < 0))) || ((!strEq a0.fDV.fOut (⟨#[]⟩ : ByteArray)) && (decide (r3 < 0))) then 5 else (letS (S.ref8_redistributions a0 a0.fDV.fRedist 4 1 15) (fun r4 => r4)))))))
theorem s_ref8_distance (a0 : TRouter) (ha0 : L_TRouter a0) : M.ref8_distance a0 = some (S.ref8_distance a0) := by
  have hM := maxLen_eq
  unfold M.ref8_distance S.ref8_distance
  refine s_if (fun hb1 => ?_) (fun hb1 => ?_)
  · refine s_if (fun hb2 => ?_) (fun hb2 => ?_)
    · rfl
    · rfl
  · refine s_bind (s_ref8_within a0.fDV.fAdmin 1 255) (fun r1 her1 => ?_)
    refine s_if (fun hb3 => ?_) (fun hb3 => ?_)
    · rfl
    · refine s_bind (s_gc fun hg => (s_ref8_PrefixList a0 a0.fDV.fIn ha0 (L_TDistanceVector.fIn (L_TRouter.fDV ha0)))) (fun r2 her2 => ?_)
      have hrr2 := rng_ref8_PrefixList a0 a0.fDV.fIn
      refine s_bind (s_gc fun hg => (s_ref8_PrefixList a0 a0.fDV.fOut ha0 (L_TDistanceVector.fOut (L_TRouter.fDV ha0)))) (fun r3 her3 => ?_)
      have hrr3 := rng_ref8_PrefixList a0 a0.fDV.fOut
      refine s_if (fun hb4 => ?_) (fun hb4 => ?_)
      · rfl
      · refine s_bind (s_ref8_redistributions a0 a0.fDV.fRedist 4 1 15 ha0 (L_TDistanceVector.fRedist (L_TRouter.fDV ha0))) (fun r4 her4 => ?_)
        rfl
noncomputable def S.ref8_neighbors_l2 (a0 : TRouter) (i1 : Nat) (i6 : Nat) : Option (Unit ⊕ Int) :=
  bif ((a0.fPV.fNeighbors.getD i6 default).fAddr) == ((a0.fPV.fNeighbors.getD i1 default).fAddr) then (some (.inr 4)) else none
theorem s_ref8_neighbors_l2 (a0 : TRouter) (i1 : Nat) (ha0 : L_TRouter a0) (hi1 : i1 < a0.fPV.fNeighbors.length) (i0 : Nat) : loopM (M.ref8_neighbors_l2 a0 (i1 : Int)) (i0 : Int) = some (runN (S.ref8_neighbors_l2 a0 i1) (.inl ()) i0 (i1 - i0)) := by
  have hM := maxLen_eq
  have hni1 : a0.fPV.fNeighbors.length ≤ maxLen := (L_TPathVector.fNeighbors (L_TRouter.fPV ha0)).1
  have hni6 : i1 ≤ maxLen := (by omega)
  refine loop_runN (n := i1) (fun i6 hi6 => ?_) (fun m hm => ?_) i0
  · unfold M.ref8_neighbors_l2 S.ref8_neighbors_l2
    try simp only [Int.toNat_natCast]
    refine s_then (dt (by omega)) ?_
    refine s_gd (all_c (dt (by omega)) (all_c (dt (by omega)) (all_c (dt (by omega)) (all_c (dt (by omega)) all_n)))) ?_
    refine s_ifN (fun hb4 => ?_) (fun hb4 => ?_)
    · exact s_out
    · exact s_up (by omega)
  · unfold M.ref8_neighbors_l2
    try simp only [Int.toNat_natCast]
    exact s_else (decide_eq_false (by omega)) rfl
noncomputable def S.ref8_neighbors_l1 (a0 : TRouter) (i1 : Nat) : Option (Unit ⊕ Int) :=
  letS (bif (!(((a0.fPV.fNeighbors.getD i1 default).fAddr) == 0)) then S.ref8_within ((a0.fPV.fNeighbors.getD i1 default).fAS) 1 65535 else default) (fun r3 => bif (((a0.fPV.fNeighbors.getD i1 default).fAddr) == 0) || (!r3) then (some (.inr 1)) else (letS (bif (!strEq ((a0.fPV.fNeighbors.getD i1 default).fIn) (⟨#[]⟩ : ByteArray)) then S.ref8_RouteMap a0 ((a0.fPV.fNeighbors.getD i1 default).fIn) else default) (fun r4 => letS (bif ((!((!strEq ((a0.fPV.fNeighbors.getD i1 default).fIn) (⟨#[]⟩ : ByteArray)) && (decide (r4 < 0)))) && (!strEq ((a0.fPV.fNeighbors.getD i1 default).fOut) (⟨#[]⟩ : ByteArray))) then S.ref8_RouteMap a0 ((a0.fPV.fNeighbors.getD i1 default).fOut) else default) (fun r5 => bif ((!strEq ((a0.fPV.fNeighbors.getD i1 default).fIn) (⟨#[]⟩ : ByteArray)) && (decide (r4 < 0))) || ((!strEq ((a0.fPV.fNeighbors.getD i1 default).fOut) (⟨#[]⟩ : ByteArray)) && (decide (r5 < 0))) then (some (.inr 5)) else (letS (runN (S.ref8_neighbors_l2 a0 i1) (.inl ()) 0 i1) (fun y8 => Sum.elim (fun _ => none) (fun y10 => some (.inr y10)) y8))))))
theorem s_ref8_neighbors_l1 (a0 : TRouter) (ha0 : L_TRouter a0) (i0 : Nat) : loopM (M.ref8_neighbors_l1 a0) (i0 : Int) = some (runN (S.ref8_neighbors_l1 a0) (.inl ()) i0 (a0.fPV.fNeighbors.length - i0)) := by
  have hM := maxLen_eq
  have hni1 : a0.fPV.fNeighbors.length ≤ maxLen := (L_TPathVector.fNeighbors (L_TRouter.fPV ha0)).1
  refine loop_runN (n := a0.fPV.fNeighbors.length) (fun i1 hi1 => ?_) (fun m hm => ?_) i0
  · unfold M.ref8_neighbors_l1 S.ref8_neighbors_l1
    try simp only [Int.toNat_natCast]
    refine s_then (dt (by omega)) ?_
    refine s_bindN (s_gc fun hg => (s_ref8_within ((a0.fPV.fNeighbors.getD i1 default).fAS) 1 65535)) (fun r3 her3 => ?_)
    refine s_gd (all_c (dt (by omega)) (all_c (dt (by omega)) (all_c (s_guard fun hg => (dt (by first | omega | (simp; omega) | (simp at *; omega)))) (all_c (s_guard fun hg => (dt (by first | omega | (simp; omega) | (simp at *; omega)))) all_n)))) ?_
    refine s_ifN (fun hb2 => ?_) (fun hb2 => ?_)
    · exact s_out
    · refine s_bindN (s_gc fun hg => (s_ref8_RouteMap a0 ((a0.fPV.fNeighbors.getD i1 default).fIn) ha0 (L_TNeighbor.fIn (LL.getD (L_TPathVector.fNeighbors (L_TRouter.fPV ha0)) L_TNeighbor.dflt i1)))) (fun r4 her4 => ?_)
      have hrr4 := rng_ref8_RouteMap a0 ((a0.fPV.fNeighbors.getD i1 default).fIn)
      refine s_bindN (s_gc fun hg => (s_ref8_RouteMap a0 ((a0.fPV.fNeighbors.getD i1 default).fOut) ha0 (L_TNeighbor.fOut (LL.getD (L_TPathVector.fNeighbors (L_TRouter.fPV ha0)) L_TNeighbor.dflt i1)))) (fun r5 her5 => ?_)
      have hrr5 := rng_ref8_RouteMap a0 ((a0.fPV.fNeighbors.getD i1 default).fOut)
      refine s_gd (all_c (dt (by omega)) (all_c (dt (by omega)) (all_c (s_guard fun hg => (dt (by first | omega | (simp; omega) | (simp at *; omega)))) (all_c (s_guard fun hg => (dt (by first | omega | (simp; omega) | (simp at *; omega)))) (all_c (s_guard fun hg => (dt (by first | omega | (simp; omega) | (simp at *; omega)))) (all_c (s_guard fun hg => (dt (by first | omega | (simp; omega) | (simp at *; omega)))) (all_c (s_guard fun hg => (dt (by first | omega | (simp; omega) | (simp at *; omega)))) (all_c (s_guard fun hg => (dt (by first | omega | (simp; omega) | (simp at *; omega)))) all_n)))))))) ?_
      refine s_ifN (fun hb3 => ?_) (fun hb3 => ?_)
      · exact s_out
      · refine s_bindN (s_ref8_neighbors_l2 a0 i1 ha0 hi1 0) (fun y8 hey8 => ?_)
        refine s_elimN (fun _ hl => ?_) (fun y10 hly10 => ?_)
        · exact s_up (by omega)
        · exact s_out
  · unfold M.ref8_neighbors_l1
    try simp only [Int.toNat_natCast]
    exact s_else (decide_eq_false (by omega)) rfl
noncomputable def S.ref8_neighbors (a0 : TRouter) : Int :=
  bif decide ((a0.fPV.fNeighbors.length : Int) > 8) then 7 else (letS (runN (S.ref8_neighbors_l1 a0) (.inl ()) 0 a0.fPV.fNeighbors.length) (fun y11 => Sum.elim (fun _ => 0) (fun y13 => y13) y11))
theorem s_ref8_neighbors (a0 : TRouter) (ha0 : L_TRouter a0) : M.ref8_neighbors a0 = some (S.ref8_neighbors a0) := by
  have hM := maxLen_eq
  unfold M.ref8_neighbors S.ref8_neighbors
  refine s_if (fun hb1 => ?_) (fun hb1 => ?_)
  · rfl
  · refine s_bind (s_ref8_neighbors_l1 a0 ha0 0) (fun y11 hey11 => ?_)
    refine s_elim (fun _ hl => ?_) (fun y13 hly13 => ?_)
    · rfl
    · rfl
noncomputable def S.ref8_originations_l2 (a0 : TPathVector) (i1 : Nat) (i4 : Nat) : Option (Unit ⊕ Int) :=
  bif ((((a0.fNetworks.getD i4 default).fAddr) == ((a0.fNetworks.getD i1 default).fAddr)) && ((((a0.fNetworks.getD i4 default).fLen) == ((a0.fNetworks.getD i1 default).fLen)) && true)) then (some (.inr 4)) else none
theorem s_ref8_originations_l2 (a0 : TPathVector) (i1 : Nat) (ha0 : L_TPathVector a0) (hi1 : i1 < a0.fNetworks.length) (i0 : Nat) : loopM (M.ref8_originations_l2 a0 (i1 : Int)) (i0 : Int) = some (runN (S.ref8_originations_l2 a0 i1) (.inl ()) i0 (i1 - i0)) := by
  have hM := maxLen_eq
  have hni1 : a0.fNetworks.length ≤ maxLen := (L_TPathVector.fNetworks ha0)
  have hni4 : i1 ≤ maxLen := (by omega)
  refine loop_runN (n := i1) (fun i4 hi4 => ?_) (fun m hm => ?_) i0
  · unfold M.ref8_originations_l2 S.ref8_originations_l2
    try simp only [Int.toNat_natCast]
    refine s_then (dt (by omega)) ?_
    refine s_gd (all_c (dt (by omega)) (all_c (dt (by omega)) (all_c (dt (by omega)) (all_c (dt (by omega)) all_n)))) ?_
    refine s_ifN (fun hb3 => ?_) (fun hb3 => ?_)
    · exact s_out
    · exact s_up (by omega)
  · unfold M.ref8_originations_l2
    try simp only [Int.toNat_natCast]
    exact s_else (decide_eq_false (by omega)) rfl
noncomputable def S.ref8_originations_l1 (a0 : TPathVector) (i1 : Nat) : Option (Unit ⊕ Int) :=
  letS (S.ref4_Valid (a0.fNetworks.getD i1 default)) (fun r3 => bif !r3 then (some (.inr 1)) else (letS (runN (S.ref8_originations_l2 a0 i1) (.inl ()) 0 i1) (fun y6 => Sum.elim (fun _ => none) (fun y8 => some (.inr y8)) y6)))
theorem s_ref8_originations_l1 (a0 : TPathVector) (ha0 : L_TPathVector a0) (i0 : Nat) : loopM (M.ref8_originations_l1 a0) (i0 : Int) = some (runN (S.ref8_originations_l1 a0) (.inl ()) i0 (a0.fNetworks.length - i0)) := by
  have hM := maxLen_eq
  have hni1 : a0.fNetworks.length ≤ maxLen := (L_TPathVector.fNetworks ha0)
  refine loop_runN (n := a0.fNetworks.length) (fun i1 hi1 => ?_) (fun m hm => ?_) i0
  · unfold M.ref8_originations_l1 S.ref8_originations_l1
    try simp only [Int.toNat_natCast]
    refine s_then (dt (by omega)) ?_
    refine s_bindN (s_ref4_Valid (a0.fNetworks.getD i1 default)) (fun r3 her3 => ?_)
    refine s_gd (all_c (dt (by omega)) (all_c (dt (by omega)) all_n)) ?_
    refine s_ifN (fun hb2 => ?_) (fun hb2 => ?_)
    · exact s_out
    · refine s_bindN (s_ref8_originations_l2 a0 i1 ha0 hi1 0) (fun y6 hey6 => ?_)
      refine s_elimN (fun _ hl => ?_) (fun y8 hly8 => ?_)
      · exact s_up (by omega)
      · exact s_out
  · unfold M.ref8_originations_l1
    try simp only [Int.toNat_natCast]
    exact s_else (decide_eq_false (by omega)) rfl
noncomputable def S.ref8_originations_l4 (a0 : TPathVector) (i12 : Nat) (i15 : Nat) : Option (Unit ⊕ Int) :=
  bif (((((a0.fAggregates.getD i15 default).fPrefix).fAddr) == (((a0.fAggregates.getD i12 default).fPrefix).fAddr)) && (((((a0.fAggregates.getD i15 default).fPrefix).fLen) == (((a0.fAggregates.getD i12 default).fPrefix).fLen)) && true)) then (some (.inr 4)) else none
theorem s_ref8_originations_l4 (a0 : TPathVector) (i12 : Nat) (ha0 : L_TPathVector a0) (hi12 : i12 < a0.fAggregates.length) (i0 : Nat) : loopM (M.ref8_originations_l4 a0 (i12 : Int)) (i0 : Int) = some (runN (S.ref8_originations_l4 a0 i12) (.inl ()) i0 (i12 - i0)) := by
  have hM := maxLen_eq
  have hni12 : a0.fAggregates.length ≤ maxLen := (L_TPathVector.fAggregates ha0)
  have hni15 : i12 ≤ maxLen := (by omega)
  refine loop_runN (n := i12) (fun i15 hi15 => ?_) (fun m hm => ?_) i0
  · unfold M.ref8_originations_l4 S.ref8_originations_l4
    try simp only [Int.toNat_natCast]
    refine s_then (dt (by omega)) ?_
    refine s_gd (all_c (dt (by omega)) (all_c (dt (by omega)) (all_c (dt (by omega)) (all_c (dt (by omega)) all_n)))) ?_
    refine s_ifN (fun hb6 => ?_) (fun hb6 => ?_)
    · exact s_out
    · exact s_up (by omega)
  · unfold M.ref8_originations_l4
    try simp only [Int.toNat_natCast]
    exact s_else (decide_eq_false (by omega)) rfl
noncomputable def S.ref8_originations_l3 (a0 : TPathVector) (i12 : Nat) : Option (Unit ⊕ Int) :=
  letS (S.ref4_Valid ((a0.fAggregates.getD i12 default).fPrefix)) (fun r14 => bif !r14 then (some (.inr 1)) else (letS (runN (S.ref8_originations_l4 a0 i12) (.inl ()) 0 i12) (fun y17 => Sum.elim (fun _ => none) (fun y19 => some (.inr y19)) y17)))
theorem s_ref8_originations_l3 (a0 : TPathVector) (ha0 : L_TPathVector a0) (i0 : Nat) : loopM (M.ref8_originations_l3 a0) (i0 : Int) = some (runN (S.ref8_originations_l3 a0) (.inl ()) i0 (a0.fAggregates.length - i0)) := by
  have hM := maxLen_eq
  have hni12 : a0.fAggregates.length ≤ maxLen := (L_TPathVector.fAggregates ha0)
  refine loop_runN (n := a0.fAggregates.length) (fun i12 hi12 => ?_) (fun m hm => ?_) i0
  · unfold M.ref8_originations_l3 S.ref8_originations_l3
    try simp only [Int.toNat_natCast]
    refine s_then (dt (by omega)) ?_
    refine s_bindN (s_ref4_Valid ((a0.fAggregates.getD i12 default).fPrefix)) (fun r14 her14 => ?_)
    refine s_gd (all_c (dt (by omega)) (all_c (dt (by omega)) all_n)) ?_
    refine s_ifN (fun hb5 => ?_) (fun hb5 => ?_)
    · exact s_out
    · refine s_bindN (s_ref8_originations_l4 a0 i12 ha0 hi12 0) (fun y17 hey17 => ?_)
      refine s_elimN (fun _ hl => ?_) (fun y19 hly19 => ?_)
      · exact s_up (by omega)
      · exact s_out
  · unfold M.ref8_originations_l3
    try simp only [Int.toNat_natCast]
    exact s_else (decide_eq_false (by omega)) rfl
noncomputable def S.ref8_originations_l6 (a0 : TPathVector) (i23 : Nat) (i27 : Nat) : Option (Unit ⊕ Int) :=
  bif (((((a0.fConditions.getD i27 default).fPrefix).fAddr) == (((a0.fConditions.getD i23 default).fPrefix).fAddr)) && (((((a0.fConditions.getD i27 default).fPrefix).fLen) == (((a0.fConditions.getD i23 default).fPrefix).fLen)) && true)) then (some (.inr 4)) else none
theorem s_ref8_originations_l6 (a0 : TPathVector) (i23 : Nat) (ha0 : L_TPathVector a0) (hi23 : i23 < a0.fConditions.length) (i0 : Nat) : loopM (M.ref8_originations_l6 a0 (i23 : Int)) (i0 : Int) = some (runN (S.ref8_originations_l6 a0 i23) (.inl ()) i0 (i23 - i0)) := by
  have hM := maxLen_eq
  have hni23 : a0.fConditions.length ≤ maxLen := (L_TPathVector.fConditions ha0)
  have hni27 : i23 ≤ maxLen := (by omega)
  refine loop_runN (n := i23) (fun i27 hi27 => ?_) (fun m hm => ?_) i0
  · unfold M.ref8_originations_l6 S.ref8_originations_l6
    try simp only [Int.toNat_natCast]
    refine s_then (dt (by omega)) ?_
    refine s_gd (all_c (dt (by omega)) (all_c (dt (by omega)) all_n)) ?_
    refine s_ifN (fun hb10 => ?_) (fun hb10 => ?_)
    · exact s_out
    · exact s_up (by omega)
  · unfold M.ref8_originations_l6
    try simp only [Int.toNat_natCast]
    exact s_else (decide_eq_false (by omega)) rfl
noncomputable def S.ref8_originations_l5 (a0 : TPathVector) (i23 : Nat) : Option (Unit ⊕ Int) :=
  letS (S.ref4_Valid ((a0.fConditions.getD i23 default).fPrefix)) (fun r25 => letS (bif (!(!r25)) then S.ref4_Valid ((a0.fConditions.getD i23 default).fIf) else default) (fun r26 => bif (!r25) || (!r26) then (some (.inr 1)) else (bif (((((a0.fConditions.getD i23 default).fPrefix).fAddr) == (((a0.fConditions.getD i23 default).fIf).fAddr)) && (((((a0.fConditions.getD i23 default).fPrefix).fLen) == (((a0.fConditions.getD i23 default).fIf).fLen)) && true)) then (some (.inr 6)) else (letS (runN (S.ref8_originations_l6 a0 i23) (.inl ()) 0 i23) (fun y29 => Sum.elim (fun _ => none) (fun y31 => some (.inr y31)) y29)))))
theorem s_ref8_originations_l5 (a0 : TPathVector) (ha0 : L_TPathVector a0) (i0 : Nat) : loopM (M.ref8_originations_l5 a0) (i0 : Int) = some (runN (S.ref8_originations_l5 a0) (.inl ()) i0 (a0.fConditions.length - i0)) := by
  have hM := maxLen_eq
  have hni23 : a0.fConditions.length ≤ maxLen := (L_TPathVector.fConditions ha0)
  refine loop_runN (n := a0.fConditions.length) (fun i23 hi23 => ?_) (fun m hm => ?_) i0
  · unfold M.ref8_originations_l5 S.ref8_originations_l5
    try simp only [Int.toNat_natCast]
    refine s_then (dt (by omega)) ?_
    refine s_gd (all_c (dt (by omega)) (all_c (dt (by omega)) all_n)) ?_
    refine s_bindN (s_ref4_Valid ((a0.fConditions.getD i23 default).fPrefix)) (fun r25 her25 => ?_)
    refine s_bindN (s_gc fun hg => (s_ref4_Valid ((a0.fConditions.getD i23 default).fIf))) (fun r26 her26 => ?_)
    refine s_ifN (fun hb8 => ?_) (fun hb8 => ?_)
    · exact s_out
    · refine s_ifN (fun hb9 => ?_) (fun hb9 => ?_)
      · exact s_out
      · refine s_bindN (s_ref8_originations_l6 a0 i23 ha0 hi23 0) (fun y29 hey29 => ?_)
        refine s_elimN (fun _ hl => ?_) (fun y31 hly31 => ?_)
        · exact s_up (by omega)
        · exact s_out
  · unfold M.ref8_originations_l5
    try simp only [Int.toNat_natCast]
    exact s_else (decide_eq_false (by omega)) rfl
noncomputable def S.ref8_originations (a0 : TPathVector) : Int :=
  bif decide ((a0.fNetworks.length : Int) > 8) then 7 else (letS (runN (S.ref8_originations_l1 a0) (.inl ()) 0 a0.fNetworks.length) (fun y9 => Sum.elim (fun _ => bif decide ((a0.fAggregates.length : Int) > 8) then 7 else (letS (runN (S.ref8_originations_l3 a0) (.inl ()) 0 a0.fAggregates.length) (fun y20 => Sum.elim (fun _ => bif decide ((a0.fConditions.length : Int) > 8) then 7 else (letS (runN (S.ref8_originations_l5 a0) (.inl ()) 0 a0.fConditions.length) (fun y32 => Sum.elim (fun _ => 0) (fun y34 => y34) y32))) (fun y22 => y22) y20))) (fun y11 => y11) y9))
theorem s_ref8_originations (a0 : TPathVector) (ha0 : L_TPathVector a0) : M.ref8_originations a0 = some (S.ref8_originations a0) := by
  have hM := maxLen_eq
  unfold M.ref8_originations S.ref8_originations
  refine s_if (fun hb1 => ?_) (fun hb1 => ?_)
  · rfl
  · refine s_bind (s_ref8_originations_l1 a0 ha0 0) (fun y9 hey9 => ?_)
    refine s_elim (fun _ hl => ?_) (fun y11 hly11 => ?_)
    · refine s_if (fun hb4 => ?_) (fun hb4 => ?_)
      · rfl
      · refine s_bind (s_ref8_originations_l3 a0 ha0 0) (fun y20 hey20 => ?_)
        refine s_elim (fun _ hl => ?_) (fun y22 hly22 => ?_)
        · refine s_if (fun hb7 => ?_) (fun hb7 => ?_)
          · rfl
          · refine s_bind (s_ref8_originations_l5 a0 ha0 0) (fun y32 hey32 => ?_)
            refine s_elim (fun _ hl => ?_) (fun y34 hly34 => ?_)
            · rfl
            · rfl
        · rfl
    · rfl
noncomputable def S.ref8_pathVector (a0 : TRouter) : Int :=
  bif !a0.fPV.fOn then (bif ((a0.fPV.fExternal != 0) || (a0.fPV.fInternal != 0)) || (decide ((wr .i64 ((wr .i64 ((wr .i64 ((wr .i64 ((a0.fPV.fNeighbors.length : Int) + (a0.fPV.fNetworks.length : Int))) + (a0.fPV.fAggregates.length : Int))) + (a0.fPV.fConditions.length : Int))) + (a0.fPV.fRedist.length : Int))) > 0)) then 1 else 0) else (letS (bif (!(a0.fAS == 0)) then S.ref8_within a0.fPV.fExternal 1 255 else default) (fun r1 => letS (bif (!((a0.fAS == 0) || (!r1))) then S.ref8_within a0.fPV.fInternal 1 255 else default) (fun r2 => bif ((a0.fAS == 0) || (!r1)) || (!r2) then 1 else (letS (S.ref8_neighbors a0) (fun r3 => bif r3 != 0 then r3 else (letS (S.ref8_originations a0.fPV) (fun r4 => bif r4 != 0 then r4 else (letS (S.ref8_redistributions a0 a0.fPV.fRedist 5 0 16777215) (fun r5 => r5)))))))))
theorem s_ref8_pathVector (a0 : TRouter) (ha0 : L_TRouter a0) : M.ref8_pathVector a0 = some (S.ref8_pathVector a0) := by
  have hM := maxLen_eq
  unfold M.ref8_pathVector S.ref8_pathVector
  refine s_if (fun hb1 => ?_) (fun hb1 => ?_)
  · refine s_if (fun hb2 => ?_) (fun hb2 => ?_)
    · rfl
    · rfl
  · refine s_bind (s_gc fun hg => (s_ref8_within a0.fPV.fExternal 1 255)) (fun r1 her1 => ?_)
    refine s_bind (s_gc fun hg => (s_ref8_within a0.fPV.fInternal 1 255)) (fun r2 her2 => ?_)
    refine s_if (fun hb3 => ?_) (fun hb3 => ?_)
    · rfl
    · refine s_bind (s_ref8_neighbors a0 ha0) (fun r3 her3 => ?_)
      refine s_if (fun hb4 => ?_) (fun hb4 => ?_)
      · rfl
      · refine s_bind (s_ref8_originations a0.fPV (L_TRouter.fPV ha0)) (fun r4 her4 => ?_)
        refine s_if (fun hb5 => ?_) (fun hb5 => ?_)
        · rfl
        · refine s_bind (s_ref8_redistributions a0 a0.fPV.fRedist 5 0 16777215 ha0 (L_TPathVector.fRedist (L_TRouter.fPV ha0))) (fun r5 her5 => ?_)
          rfl
noncomputable def S.ref8_CheckRouter_l1 (r3 : Int) (r4 : Int) (r5 : Int) (r6 : Int) (r7 : Int) (r8 : Int) (r9 : Int) (r10 : Int) (r11 : Int) (r12 : Int) (i13 : Nat) : Option (Unit ⊕ Int) :=
  bif (([r3, r4, r5, r6, r7, r8, r9, r10, r11, r12] : List Int).getD i13 default) != 0 then (some (.inr (([r3, r4, r5, r6, r7, r8, r9, r10, r11, r12] : List Int).getD i13 default))) else none
theorem s_ref8_CheckRouter_l1 (r3 : Int) (r4 : Int) (r5 : Int) (r6 : Int) (r7 : Int) (r8 : Int) (r9 : Int) (r10 : Int) (r11 : Int) (r12 : Int)  (i0 : Nat) : loopM (M.ref8_CheckRouter_l1 r3 r4 r5 r6 r7 r8 r9 r10 r11 r12) (i0 : Int) = some (runN (S.ref8_CheckRouter_l1 r3 r4 r5 r6 r7 r8 r9 r10 r11 r12) (.inl ()) i0 (([r3, r4, r5, r6, r7, r8, r9, r10, r11, r12] : List Int).length - i0)) := by
  have hM := maxLen_eq
  have hni13 : ([r3, r4, r5, r6, r7, r8, r9, r10, r11, r12] : List Int).length ≤ maxLen := (by simp [maxLen_eq])
  refine loop_runN (n := ([r3, r4, r5, r6, r7, r8, r9, r10, r11, r12] : List Int).length) (fun i13 hi13 => ?_) (fun m hm => ?_) i0
  · unfold M.ref8_CheckRouter_l1 S.ref8_CheckRouter_l1
    try simp only [Int.toNat_natCast]
    refine s_then (dt (by omega)) ?_
    refine s_gd (all_c (dt (by omega)) (all_c (dt (by first | omega | (simp; omega) | (simp at *; omega))) all_n)) ?_
    refine s_ifN (fun hb3 => ?_) (fun hb3 => ?_)
    · refine s_gd (all_c (dt (by omega)) (all_c (dt (by first | omega | (simp; omega) | (simp at *; omega))) all_n)) ?_
      exact s_out
    · exact s_up (by omega)
  · unfold M.ref8_CheckRouter_l1
    try simp only [Int.toNat_natCast]
    exact s_else (decide_eq_false (by omega)) rfl
noncomputable def S.ref8_CheckRouter (a0 : TRouter) : Int :=
  letS (S.ref4_Name a0.fName) (fun r1 => bif !r1 then 3 else (letS (S.ref8_within a0.fAS 0 65535) (fun r2 => bif !r2 then 1 else (letS (S.ref8_interfaces a0.fInterfaces) (fun r3 => letS (S.ref8_prefixLists a0.fLists) (fun r4 => letS (S.ref8_routeMaps a0) (fun r5 => letS (S.ref8_accessLists a0.fACLs) (fun r6 => letS (S.ref8_translations a0) (fun r7 => letS (S.ref8_filters a0) (fun r8 => letS (S.ref8_statics a0) (fun r9 => letS (S.ref8_linkState a0) (fun r10 => letS (S.ref8_distance a0) (fun r11 => letS (S.ref8_pathVector a0) (fun r12 => letS (runN (S.ref8_CheckRouter_l1 r3 r4 r5 r6 r7 r8 r9 r10 r11 r12) (.inl ()) 0 (([r3, r4, r5, r6, r7, r8, r9, r10, r11, r12] : List Int).length)) (fun y15 => Sum.elim (fun _ => 0) (fun y17 => y17) y15)))))))))))))))
theorem s_ref8_CheckRouter (a0 : TRouter) (ha0 : L_TRouter a0) : M.ref8_CheckRouter a0 = some (S.ref8_CheckRouter a0) := by
  have hM := maxLen_eq
  unfold M.ref8_CheckRouter S.ref8_CheckRouter
  refine s_bind (s_ref4_Name a0.fName (L_TRouter.fName ha0)) (fun r1 her1 => ?_)
  refine s_if (fun hb1 => ?_) (fun hb1 => ?_)
  · rfl
  · refine s_bind (s_ref8_within a0.fAS 0 65535) (fun r2 her2 => ?_)
    refine s_if (fun hb2 => ?_) (fun hb2 => ?_)
    · rfl
    · refine s_bind (s_ref8_interfaces a0.fInterfaces (L_TRouter.fInterfaces ha0)) (fun r3 her3 => ?_)
      refine s_bind (s_ref8_prefixLists a0.fLists (L_TRouter.fLists ha0)) (fun r4 her4 => ?_)
      refine s_bind (s_ref8_routeMaps a0 ha0) (fun r5 her5 => ?_)
      refine s_bind (s_ref8_accessLists a0.fACLs (L_TRouter.fACLs ha0)) (fun r6 her6 => ?_)
      refine s_bind (s_ref8_translations a0 ha0) (fun r7 her7 => ?_)
      refine s_bind (s_ref8_filters a0 ha0) (fun r8 her8 => ?_)
      refine s_bind (s_ref8_statics a0 ha0) (fun r9 her9 => ?_)
      refine s_bind (s_ref8_linkState a0 ha0) (fun r10 her10 => ?_)
      refine s_bind (s_ref8_distance a0 ha0) (fun r11 her11 => ?_)
      refine s_bind (s_ref8_pathVector a0 ha0) (fun r12 her12 => ?_)
      refine s_bind (s_ref8_CheckRouter_l1 r3 r4 r5 r6 r7 r8 r9 r10 r11 r12 0) (fun y15 hey15 => ?_)
      refine s_elim (fun _ hl => ?_) (fun y17 hly17 => ?_)
      · rfl
      · rfl
noncomputable def S.ref15_within (a0 : Int) (a1 : Int) (a2 : Int) : Bool :=
  (decide (a1 ≤ a0)) && (decide (a0 ≤ a2))
theorem s_ref15_within (a0 : Int) (a1 : Int) (a2 : Int)  : M.ref15_within a0 a1 a2 = some (S.ref15_within a0 a1 a2) := by
  have hM := maxLen_eq
  unfold M.ref15_within S.ref15_within
  rfl
noncomputable def S.ref15_plain (a0 : TRoute) (a1 : Bool) (a2 : Bool) (a3 : Bool) : Bool :=
  ((a1 || (a0.fInner == 0)) && (a2 || (((a0.fPref == 0) && ((a0.fPath.length : Int) == 0)) && (a0.fFrom == 0)))) && (a3 || (a0.fNext == 0))
theorem s_ref15_plain (a0 : TRoute) (a1 : Bool) (a2 : Bool) (a3 : Bool) (ha0 : L_TRoute a0) : M.ref15_plain a0 a1 a2 a3 = some (S.ref15_plain a0 a1 a2 a3) := by
  have hM := maxLen_eq
  unfold M.ref15_plain S.ref15_plain
  rfl
noncomputable def S.ref15_lessHop (a0 : THop) (a1 : THop) : Bool :=
  (decide (a0.fIface < a1.fIface)) || ((a0.fIface == a1.fIface) && (decide (a0.fAddr < a1.fAddr)))
theorem s_ref15_lessHop (a0 : THop) (a1 : THop)  : M.ref15_lessHop a0 a1 = some (S.ref15_lessHop a0 a1) := by
  have hM := maxLen_eq
  unfold M.ref15_lessHop S.ref15_lessHop
  rfl
noncomputable def S.ref15_hops_l1 (a0 : List THop) (a1 : Bool) (i1 : Nat) : Option (Unit ⊕ Bool) :=
  letS (bif ((!(decide (((a0.getD i1 default).fIface) < 0))) && (decide ((i1 : Int) > 0))) then S.ref15_lessHop (a0.getD (wr .i64 ((i1 : Int) - 1)).toNat default) (a0.getD i1 default) else default) (fun r3 => bif ((decide (((a0.getD i1 default).fIface) < 0)) || ((decide ((i1 : Int) > 0)) && (!r3))) || (!((((a0.getD i1 default).fAddr) == 0) == a1)) then (some (.inr false)) else none)
theorem s_ref15_hops_l1 (a0 : List THop) (a1 : Bool) (ha0 : a0.length ≤ maxLen) (i0 : Nat) : loopM (M.ref15_hops_l1 a0 a1) (i0 : Int) = some (runN (S.ref15_hops_l1 a0 a1) (.inl ()) i0 (a0.length - i0)) := by
  have hM := maxLen_eq
  have hni1 : a0.length ≤ maxLen := ha0
  refine loop_runN (n := a0.length) (fun i1 hi1 => ?_) (fun m hm => ?_) i0
  · unfold M.ref15_hops_l1 S.ref15_hops_l1
    try simp only [Int.toNat_natCast]
    have hdi1 : wr .i64 ((i1 : Int) - 1) = (i1 : Int) - 1 := wr_i64 (by omega)
    refine s_then (dt (by omega)) ?_
    refine s_bindN (s_gc fun hg => (s_ref15_lessHop (a0.getD (wr .i64 ((i1 : Int) - 1)).toNat default) (a0.getD i1 default))) (fun r3 her3 => ?_)
    refine s_gd (all_c (dt (by omega)) (all_c (dt (by omega)) (all_c (s_guard fun hg => (dt (by first | omega | (simp; omega) | (simp at *; omega)))) (all_c (s_guard fun hg => (dt (by first | omega | (simp; omega) | (simp at *; omega)))) (all_c (s_guard fun hg => (dt (by first | omega | (simp; omega) | (simp at *; omega)))) (all_c (s_guard fun hg => (dt (by first | omega | (simp; omega) | (simp at *; omega)))) (all_c (s_guard fun hg => (dt (by first | omega | (simp; omega) | (simp at *; omega)))) (all_c (s_guard fun hg => (dt (by first | omega | (simp; omega) | (simp at *; omega)))) all_n)))))))) ?_
    refine s_ifN (fun hb1 => ?_) (fun hb1 => ?_)
    · exact s_out
    · exact s_up (by omega)
  · unfold M.ref15_hops_l1
    try simp only [Int.toNat_natCast]
    exact s_else (decide_eq_false (by omega)) rfl
noncomputable def S.ref15_hops (a0 : List THop) (a1 : Bool) : Bool :=
  letS (runN (S.ref15_hops_l1 a0 a1) (.inl ()) 0 a0.length) (fun y4 => Sum.elim (fun _ => true) (fun y6 => y6) y4)
theorem s_ref15_hops (a0 : List THop) (a1 : Bool) (ha0 : a0.length ≤ maxLen) : M.ref15_hops a0 a1 = some (S.ref15_hops a0 a1) := by
  have hM := maxLen_eq
  unfold M.ref15_hops S.ref15_hops
  refine s_bind (s_ref15_hops_l1 a0 a1 ha0 0) (fun y4 hey4 => ?_)
  refine s_elim (fun _ hl => ?_) (fun y6 hly6 => ?_)
  · rfl
  · rfl
noncomputable def S.ref15_validStatic (a0 : TRoute) : Bool :=
  letS (bif (!((a0.fClass != 0) || (a0.fMetric != 0))) then S.ref15_within a0.fAdmin 1 255 else default) (fun r1 => letS (bif (!(((a0.fClass != 0) || (a0.fMetric != 0)) || (!r1))) then S.ref15_plain a0 false false true else default) (fun r2 => bif (((a0.fClass != 0) || (a0.fMetric != 0)) || (!r1)) || (!r2) then false else (bif a0.fNext != 0 then (((a0.fHops.length : Int) == 0) && (!a0.fDiscard)) else (bif a0.fDiscard then ((a0.fHops.length : Int) == 0) else (letS (bif ((a0.fHops.length : Int) == 1) then S.ref15_hops a0.fHops true else default) (fun r3 => ((a0.fHops.length : Int) == 1) && r3))))))
theorem s_ref15_validStatic (a0 : TRoute) (ha0 : L_TRoute a0) : M.ref15_validStatic a0 = some (S.ref15_validStatic a0) := by
  have hM := maxLen_eq
  unfold M.ref15_validStatic S.ref15_validStatic
  refine s_bind (s_gc fun hg => (s_ref15_within a0.fAdmin 1 255)) (fun r1 her1 => ?_)
  refine s_bind (s_gc fun hg => (s_ref15_plain a0 false false true ha0)) (fun r2 her2 => ?_)
  refine s_if (fun hb1 => ?_) (fun hb1 => ?_)
  · rfl
  · refine s_if (fun hb2 => ?_) (fun hb2 => ?_)
    · rfl
    · refine s_if (fun hb3 => ?_) (fun hb3 => ?_)
      · rfl
      · refine s_bind (s_gc fun hg => (s_ref15_hops a0.fHops true (L_TRoute.fHops ha0))) (fun r3 her3 => ?_)
        rfl
noncomputable def S.ref15_validLinkState (a0 : TRoute) : Bool :=
  letS (S.ref15_within a0.fClass 1 4) (fun r1 => letS (bif (!(!r1)) then S.ref15_within a0.fAdmin 1 255 else default) (fun r2 => letS (bif (!((!r1) || (!r2))) then S.ref15_within a0.fMetric 0 1073741824 else default) (fun r3 => letS (bif (!(((!r1) || (!r2)) || (!r3))) then S.ref15_plain a0 true false false else default) (fun r4 => bif (((!r1) || (!r2)) || (!r3)) || (!r4) then false else (letS (S.ref15_within a0.fInner 0 1073741824) (fun r5 => bif (!r5) || ((a0.fClass != 4) && (a0.fInner != 0)) then false else (bif a0.fDiscard then ((((a0.fClass == 1) && (a0.fMetric == 0)) && (a0.fTag == 0)) && ((a0.fHops.length : Int) == 0)) else (letS (bif (decide ((a0.fHops.length : Int) > 0)) then S.ref15_hops a0.fHops false else default) (fun r6 => (decide ((a0.fHops.length : Int) > 0)) && r6)))))))))
theorem s_ref15_validLinkState (a0 : TRoute) (ha0 : L_TRoute a0) : M.ref15_validLinkState a0 = some (S.ref15_validLinkState a0) := by
  have hM := maxLen_eq
  unfold M.ref15_validLinkState S.ref15_validLinkState
  refine s_bind (s_ref15_within a0.fClass 1 4) (fun r1 her1 => ?_)
  refine s_bind (s_gc fun hg => (s_ref15_within a0.fAdmin 1 255)) (fun r2 her2 => ?_)
  refine s_bind (s_gc fun hg => (s_ref15_within a0.fMetric 0 1073741824)) (fun r3 her3 => ?_)
  refine s_bind (s_gc fun hg => (s_ref15_plain a0 true false false ha0)) (fun r4 her4 => ?_)
  refine s_if (fun hb1 => ?_) (fun hb1 => ?_)
  · rfl
  · refine s_bind (s_ref15_within a0.fInner 0 1073741824) (fun r5 her5 => ?_)
    refine s_if (fun hb2 => ?_) (fun hb2 => ?_)
    · rfl
    · refine s_if (fun hb3 => ?_) (fun hb3 => ?_)
      · rfl
      · refine s_bind (s_gc fun hg => (s_ref15_hops a0.fHops false (L_TRoute.fHops ha0))) (fun r6 her6 => ?_)
        rfl
noncomputable def S.ref15_validDistance (a0 : TRoute) : Bool :=
  letS (S.ref15_within a0.fAdmin 1 255) (fun r1 => letS (bif (!(!r1)) then S.ref15_within a0.fMetric 1 15 else default) (fun r2 => letS (bif (!((!r1) || (!r2))) then S.ref15_plain a0 false false false else default) (fun r3 => bif (((!r1) || (!r2)) || (!r3)) || a0.fDiscard then false else (bif a0.fClass == 1 then (letS (bif (((a0.fMetric == 1) && (a0.fTag == 0)) && ((a0.fHops.length : Int) == 1)) then S.ref15_hops a0.fHops true else default) (fun r4 => (((a0.fMetric == 1) && (a0.fTag == 0)) && ((a0.fHops.length : Int) == 1)) && r4)) else (bif a0.fClass == 2 then ((a0.fHops.length : Int) == 0) else (bif a0.fClass == 3 then (letS (bif (decide ((a0.fHops.length : Int) > 0)) then S.ref15_hops a0.fHops false else default) (fun r5 => (decide ((a0.fHops.length : Int) > 0)) && r5)) else false))))))
theorem s_ref15_validDistance (a0 : TRoute) (ha0 : L_TRoute a0) : M.ref15_validDistance a0 = some (S.ref15_validDistance a0) := by
  have hM := maxLen_eq
  unfold M.ref15_validDistance S.ref15_validDistance
  refine s_bind (s_ref15_within a0.fAdmin 1 255) (fun r1 her1 => ?_)
  refine s_bind (s_gc fun hg => (s_ref15_within a0.fMetric 1 15)) (fun r2 her2 => ?_)
  refine s_bind (s_gc fun hg => (s_ref15_plain a0 false false false ha0)) (fun r3 her3 => ?_)
  refine s_if (fun hb1 => ?_) (fun hb1 => ?_)
  · rfl
  · refine s_if (fun hb2 => ?_) (fun hb2 => ?_)
    · refine s_bind (s_gc fun hg => (s_ref15_hops a0.fHops true (L_TRoute.fHops ha0))) (fun r4 her4 => ?_)
      rfl
    · refine s_if (fun hb3 => ?_) (fun hb3 => ?_)
      · rfl
      · refine s_if (fun hb4 => ?_) (fun hb4 => ?_)
        · refine s_bind (s_gc fun hg => (s_ref15_hops a0.fHops false (L_TRoute.fHops ha0))) (fun r5 her5 => ?_)
          rfl
        · rfl
noncomputable def S.ref15_validPath_k2 (a0 : TRoute) (p6 : Bool) : Bool :=
  bif p6 then (letS (bif ((((a0.fClass == 4) || (decide ((a0.fPath.length : Int) > 0))) && (a0.fFrom != 0)) && ((a0.fHops.length : Int) == 1)) then S.ref15_hops a0.fHops false else default) (fun r7 => ((((((a0.fClass == 4) || (decide ((a0.fPath.length : Int) > 0))) && (a0.fFrom != 0)) && ((a0.fHops.length : Int) == 1)) && r7) && (((a0.fHops.getD (0 : Int).toNat default).fAddr) == a0.fFrom)) && (!a0.fDiscard))) else false
theorem s_ref15_validPath_k2 (a0 : TRoute) (p6 : Bool) (ha0 : L_TRoute a0) : M.ref15_validPath_k2 a0 p6 = some (S.ref15_validPath_k2 a0 p6) := by
  have hM := maxLen_eq
  unfold M.ref15_validPath_k2 S.ref15_validPath_k2
  refine s_if (fun hb5 => ?_) (fun hb5 => ?_)
  · refine s_bind (s_gc fun hg => (s_ref15_hops a0.fHops false (L_TRoute.fHops ha0))) (fun r7 her7 => ?_)
    refine s_gd (all_c (s_guard fun hg => (dt (by first | omega | (simp; omega) | (simp at *; omega)))) (all_c (s_guard fun hg => (dt (by first | omega | (simp; omega) | (simp at *; omega)))) all_n)) ?_
    rfl
  · rfl
noncomputable def S.ref15_validPath_k1 (a0 : TRoute) (p5 : Bool) : Bool :=
  bif p5 then (((((a0.fPath.length : Int) == 0) && (a0.fFrom == 0)) && ((a0.fHops.length : Int) == 0)) && (a0.fDiscard == (a0.fClass == 2))) else (bif a0.fClass == 3 then (S.ref15_validPath_k2 a0 (a0.fClass == 3)) else (S.ref15_validPath_k2 a0 (a0.fClass == 4)))
theorem s_ref15_validPath_k1 (a0 : TRoute) (p5 : Bool) (ha0 : L_TRoute a0) : M.ref15_validPath_k1 a0 p5 = some (S.ref15_validPath_k1 a0 p5) := by
  have hM := maxLen_eq
  unfold M.ref15_validPath_k1 S.ref15_validPath_k1
  refine s_if (fun hb3 => ?_) (fun hb3 => ?_)
  · rfl
  · refine s_if (fun hb4 => ?_) (fun hb4 => ?_)
    · exact s_ref15_validPath_k2 a0 (a0.fClass == 3) ha0
    · exact s_ref15_validPath_k2 a0 (a0.fClass == 4) ha0
noncomputable def S.ref15_validPath (a0 : TRoute) : Bool :=
  letS (S.ref15_within a0.fAdmin 1 255) (fun r1 => letS (bif (!(!r1)) then S.ref15_within a0.fMetric 0 16777215 else default) (fun r2 => letS (bif (!((!r1) || (!r2))) then S.ref15_within a0.fPref 0 1000000 else default) (fun r3 => letS (bif (!(((!r1) || (!r2)) || (!r3))) then S.ref15_plain a0 false true false else default) (fun r4 => bif (((!r1) || (!r2)) || (!r3)) || (!r4) then false else (bif a0.fClass == 1 then (S.ref15_validPath_k1 a0 (a0.fClass == 1)) else (S.ref15_validPath_k1 a0 (a0.fClass == 2)))))))
theorem s_ref15_validPath (a0 : TRoute) (ha0 : L_TRoute a0) : M.ref15_validPath a0 = some (S.ref15_validPath a0) := by
  have hM := maxLen_eq
  unfold M.ref15_validPath S.ref15_validPath
  refine s_bind (s_ref15_within a0.fAdmin 1 255) (fun r1 her1 => ?_)
  refine s_bind (s_gc fun hg => (s_ref15_within a0.fMetric 0 16777215)) (fun r2 her2 => ?_)
  refine s_bind (s_gc fun hg => (s_ref15_within a0.fPref 0 1000000)) (fun r3 her3 => ?_)
  refine s_bind (s_gc fun hg => (s_ref15_plain a0 false true false ha0)) (fun r4 her4 => ?_)
  refine s_if (fun hb1 => ?_) (fun hb1 => ?_)
  · rfl
  · refine s_if (fun hb2 => ?_) (fun hb2 => ?_)
    · exact s_ref15_validPath_k1 a0 (a0.fClass == 1) ha0
    · exact s_ref15_validPath_k1 a0 (a0.fClass == 2) ha0
noncomputable def S.ref15_Valid_l1 (a0 : TRoute) (i3 : Nat) : Option (Unit ⊕ Bool) :=
  letS (S.ref15_within (a0.fPath.getD i3 default) 1 65535) (fun r5 => bif !r5 then (some (.inr false)) else none)
theorem s_ref15_Valid_l1 (a0 : TRoute) (ha0 : L_TRoute a0) (i0 : Nat) : loopM (M.ref15_Valid_l1 a0) (i0 : Int) = some (runN (S.ref15_Valid_l1 a0) (.inl ()) i0 (a0.fPath.length - i0)) := by
  have hM := maxLen_eq
  have hni3 : a0.fPath.length ≤ maxLen := (L_TRoute.fPath ha0)
  refine loop_runN (n := a0.fPath.length) (fun i3 hi3 => ?_) (fun m hm => ?_) i0
  · unfold M.ref15_Valid_l1 S.ref15_Valid_l1
    try simp only [Int.toNat_natCast]
    refine s_then (dt (by omega)) ?_
    refine s_bindN (s_ref15_within (a0.fPath.getD i3 default) 1 65535) (fun r5 her5 => ?_)
    refine s_gd (all_c (dt (by omega)) (all_c (dt (by omega)) all_n)) ?_
    refine s_ifN (fun hb2 => ?_) (fun hb2 => ?_)
    · exact s_out
    · exact s_up (by omega)
  · unfold M.ref15_Valid_l1
    try simp only [Int.toNat_natCast]
    exact s_else (decide_eq_false (by omega)) rfl
noncomputable def S.ref15_Valid (a0 : TRoute) : Bool :=
  letS (S.ref4_Valid a0.fPrefix) (fun r1 => letS (bif (!(!r1)) then S.ref15_within a0.fTag 0 65535 else default) (fun r2 => bif ((!r1) || (!r2)) || (decide ((a0.fPath.length : Int) > 64)) then false else (letS (runN (S.ref15_Valid_l1 a0) (.inl ()) 0 a0.fPath.length) (fun y6 => Sum.elim (fun _ => bif a0.fProto == 1 then (letS (bif ((((a0.fClass == 0) && (a0.fAdmin == 0)) && (a0.fMetric == 0)) && (a0.fTag == 0)) then S.ref15_plain a0 false false false else default) (fun r9 => letS (bif (((((((a0.fClass == 0) && (a0.fAdmin == 0)) && (a0.fMetric == 0)) && (a0.fTag == 0)) && r9) && (!a0.fDiscard)) && ((a0.fHops.length : Int) == 1)) then S.ref15_hops a0.fHops true else default) (fun r10 => (((((((a0.fClass == 0) && (a0.fAdmin == 0)) && (a0.fMetric == 0)) && (a0.fTag == 0)) && r9) && (!a0.fDiscard)) && ((a0.fHops.length : Int) == 1)) && r10))) else (bif a0.fProto == 2 then (letS (S.ref15_validStatic a0) (fun r11 => r11)) else (bif a0.fProto == 3 then (letS (S.ref15_validLinkState a0) (fun r12 => r12)) else (bif a0.fProto == 4 then (letS (S.ref15_validDistance a0) (fun r13 => r13)) else (bif a0.fProto == 5 then (letS (S.ref15_validPath a0) (fun r14 => r14)) else false))))) (fun y8 => y8) y6))))
theorem s_ref15_Valid (a0 : TRoute) (ha0 : L_TRoute a0) : M.ref15_Valid a0 = some (S.ref15_Valid a0) := by
  have hM := maxLen_eq
  unfold M.ref15_Valid S.ref15_Valid
  refine s_bind (s_ref4_Valid a0.fPrefix) (fun r1 her1 => ?_)
  refine s_bind (s_gc fun hg => (s_ref15_within a0.fTag 0 65535)) (fun r2 her2 => ?_)
  refine s_if (fun hb1 => ?_) (fun hb1 => ?_)
  · rfl
  · refine s_bind (s_ref15_Valid_l1 a0 ha0 0) (fun y6 hey6 => ?_)
    refine s_elim (fun _ hl => ?_) (fun y8 hly8 => ?_)
    · refine s_if (fun hb3 => ?_) (fun hb3 => ?_)
      · refine s_bind (s_gc fun hg => (s_ref15_plain a0 false false false ha0)) (fun r9 her9 => ?_)
        refine s_bind (s_gc fun hg => (s_ref15_hops a0.fHops true (L_TRoute.fHops ha0))) (fun r10 her10 => ?_)
        rfl
      · refine s_if (fun hb4 => ?_) (fun hb4 => ?_)
        · refine s_bind (s_ref15_validStatic a0 ha0) (fun r11 her11 => ?_)
          rfl
        · refine s_if (fun hb5 => ?_) (fun hb5 => ?_)
          · refine s_bind (s_ref15_validLinkState a0 ha0) (fun r12 her12 => ?_)
            rfl
          · refine s_if (fun hb6 => ?_) (fun hb6 => ?_)
            · refine s_bind (s_ref15_validDistance a0 ha0) (fun r13 her13 => ?_)
              rfl
            · refine s_if (fun hb7 => ?_) (fun hb7 => ?_)
              · refine s_bind (s_ref15_validPath a0 ha0) (fun r14 her14 => ?_)
                rfl
              · rfl
    · rfl
noncomputable def S.ref4_Compare (a0 : TPrefix) (a1 : TPrefix) : Int :=
  bif (decide (a0.fAddr < a1.fAddr)) || ((a0.fAddr == a1.fAddr) && (decide (a0.fLen < a1.fLen))) then (-1) else (bif ((a0.fAddr == a1.fAddr) && ((a0.fLen == a1.fLen) && true)) then 0 else 1)
theorem s_ref4_Compare (a0 : TPrefix) (a1 : TPrefix)  : M.ref4_Compare a0 a1 = some (S.ref4_Compare a0 a1) := by
  have hM := maxLen_eq
  unfold M.ref4_Compare S.ref4_Compare
  refine s_if (fun hb1 => ?_) (fun hb1 => ?_)
  · rfl
  · refine s_if (fun hb2 => ?_) (fun hb2 => ?_)
    · rfl
    · rfl
noncomputable def S.ref15_Table_l1 (a0 : List TRoute) (a1 : Int) (i1 : Nat) : Option (Unit ⊕ Bool) :=
  letS (S.ref15_Valid (a0.getD i1 default)) (fun r3 => letS (bif ((!((!r3) || ((a1 != 0) && (((a0.getD i1 default).fProto) != a1)))) && (decide ((i1 : Int) > 0))) then S.ref4_Compare ((a0.getD (wr .i64 ((i1 : Int) - 1)).toNat default).fPrefix) ((a0.getD i1 default).fPrefix) else default) (fun r4 => bif ((!r3) || ((a1 != 0) && (((a0.getD i1 default).fProto) != a1))) || ((decide ((i1 : Int) > 0)) && (decide (r4 ≥ 0))) then (some (.inr false)) else none))
theorem s_ref15_Table_l1 (a0 : List TRoute) (a1 : Int) (ha0 : LL L_TRoute a0) (i0 : Nat) : loopM (M.ref15_Table_l1 a0 a1) (i0 : Int) = some (runN (S.ref15_Table_l1 a0 a1) (.inl ()) i0 (a0.length - i0)) := by
  have hM := maxLen_eq
  have hni1 : a0.length ≤ maxLen := ha0.1
  refine loop_runN (n := a0.length) (fun i1 hi1 => ?_) (fun m hm => ?_) i0
  · unfold M.ref15_Table_l1 S.ref15_Table_l1
    try simp only [Int.toNat_natCast]
    have hdi1 : wr .i64 ((i1 : Int) - 1) = (i1 : Int) - 1 := wr_i64 (by omega)
    refine s_then (dt (by omega)) ?_
    refine s_bindN (s_ref15_Valid (a0.getD i1 default) (LL.getD ha0 L_TRoute.dflt i1)) (fun r3 her3 => ?_)
    refine s_bindN (s_gc fun hg => (s_ref4_Compare ((a0.getD (wr .i64 ((i1 : Int) - 1)).toNat default).fPrefix) ((a0.getD i1 default).fPrefix))) (fun r4 her4 => ?_)
    refine s_gd (all_c (dt (by omega)) (all_c (dt (by omega)) (all_c (s_guard fun hg => (dt (by first | omega | (simp; omega) | (simp at *; omega)))) (all_c (s_guard fun hg => (dt (by first | omega | (simp; omega) | (simp at *; omega)))) (all_c (s_guard fun hg => (dt (by first | omega | (simp; omega) | (simp at *; omega)))) (all_c (s_guard fun hg => (dt (by first | omega | (simp; omega) | (simp at *; omega)))) (all_c (s_guard fun hg => (dt (by first | omega | (simp; omega) | (simp at *; omega)))) (all_c (s_guard fun hg => (dt (by first | omega | (simp; omega) | (simp at *; omega)))) all_n)))))))) ?_
    refine s_ifN (fun hb1 => ?_) (fun hb1 => ?_)
    · exact s_out
    · exact s_up (by omega)
  · unfold M.ref15_Table_l1
    try simp only [Int.toNat_natCast]
    exact s_else (decide_eq_false (by omega)) rfl
noncomputable def S.ref15_Table (a0 : List TRoute) (a1 : Int) : Bool :=
  letS (runN (S.ref15_Table_l1 a0 a1) (.inl ()) 0 a0.length) (fun y5 => Sum.elim (fun _ => true) (fun y7 => y7) y5)
theorem s_ref15_Table (a0 : List TRoute) (a1 : Int) (ha0 : LL L_TRoute a0) : M.ref15_Table a0 a1 = some (S.ref15_Table a0 a1) := by
  have hM := maxLen_eq
  unfold M.ref15_Table S.ref15_Table
  refine s_bind (s_ref15_Table_l1 a0 a1 ha0 0) (fun y5 hey5 => ?_)
  refine s_elim (fun _ hl => ?_) (fun y7 hly7 => ?_)
  · rfl
  · rfl
noncomputable def S.law19_into (a0 : TRouter) (a1 : Int) : List TRedist :=
  bif a1 == 3 then a0.fLS.fRedist else (bif a1 == 4 then a0.fDV.fRedist else a0.fPV.fRedist)
theorem s_law19_into (a0 : TRouter) (a1 : Int) (ha0 : L_TRouter a0) : M.law19_into a0 a1 = some (S.law19_into a0 a1) := by
  have hM := maxLen_eq
  unfold M.law19_into S.law19_into
  refine s_if (fun hb1 => ?_) (fun hb1 => ?_)
  · rfl
  · refine s_if (fun hb2 => ?_) (fun hb2 => ?_)
    · rfl
    · rfl
noncomputable def S.model_RouteMap_1 (a0 : TRouteMap) (b0 : ByteArray) : Bool :=
  strEq a0.fName b0
theorem s_model_RouteMap_1 (a0 : TRouteMap) (b0 : ByteArray) (ha0 : L_TRouteMap a0) (hb0 : b0.size ≤ maxLen) : M.model_RouteMap_1 a0 b0 = some (S.model_RouteMap_1 a0 b0) := by
  have hM := maxLen_eq
  unfold M.model_RouteMap_1 S.model_RouteMap_1
  rfl
noncomputable def S.slices_IndexFunc_api_RouteMap_api_RouteMap__model_RouteMap_1_l1 (a0 : List TRouteMap) (a1c0 : ByteArray) (i1 : Nat) : Option (Unit ⊕ Int) :=
  letS (S.model_RouteMap_1 (a0.getD i1 default) a1c0) (fun r3 => bif r3 then (some (.inr (i1 : Int))) else none)
theorem s_slices_IndexFunc_api_RouteMap_api_RouteMap__model_RouteMap_1_l1 (a0 : List TRouteMap) (a1c0 : ByteArray) (ha0 : LL L_TRouteMap a0) (ha1c0 : a1c0.size ≤ maxLen) (i0 : Nat) : loopM (M.slices_IndexFunc_api_RouteMap_api_RouteMap__model_RouteMap_1_l1 a0 a1c0) (i0 : Int) = some (runN (S.slices_IndexFunc_api_RouteMap_api_RouteMap__model_RouteMap_1_l1 a0 a1c0) (.inl ()) i0 (a0.length - i0)) := by
  have hM := maxLen_eq
  have hni1 : a0.length ≤ maxLen := ha0.1
  refine loop_runN (n := a0.length) (fun i1 hi1 => ?_) (fun m hm => ?_) i0
  · unfold M.slices_IndexFunc_api_RouteMap_api_RouteMap__model_RouteMap_1_l1 S.slices_IndexFunc_api_RouteMap_api_RouteMap__model_RouteMap_1_l1
    try simp only [Int.toNat_natCast]
    refine s_then (dt (by omega)) ?_
    refine s_bindN (s_model_RouteMap_1 (a0.getD i1 default) a1c0 (LL.getD ha0 L_TRouteMap.dflt i1) ha1c0) (fun r3 her3 => ?_)
    refine s_gd (all_c (dt (by omega)) (all_c (dt (by omega)) all_n)) ?_
    refine s_ifN (fun hb1 => ?_) (fun hb1 => ?_)
    · exact s_out
    · exact s_up (by omega)
  · unfold M.slices_IndexFunc_api_RouteMap_api_RouteMap__model_RouteMap_1_l1
    try simp only [Int.toNat_natCast]
    exact s_else (decide_eq_false (by omega)) rfl
noncomputable def S.slices_IndexFunc_api_RouteMap_api_RouteMap__model_RouteMap_1 (a0 : List TRouteMap) (a1c0 : ByteArray) : Int :=
  letS (runN (S.slices_IndexFunc_api_RouteMap_api_RouteMap__model_RouteMap_1_l1 a0 a1c0) (.inl ()) 0 a0.length) (fun y4 => Sum.elim (fun _ => -1) (fun y6 => y6) y4)
theorem s_slices_IndexFunc_api_RouteMap_api_RouteMap__model_RouteMap_1 (a0 : List TRouteMap) (a1c0 : ByteArray) (ha0 : LL L_TRouteMap a0) (ha1c0 : a1c0.size ≤ maxLen) : M.slices_IndexFunc_api_RouteMap_api_RouteMap__model_RouteMap_1 a0 a1c0 = some (S.slices_IndexFunc_api_RouteMap_api_RouteMap__model_RouteMap_1 a0 a1c0) := by
  have hM := maxLen_eq
  unfold M.slices_IndexFunc_api_RouteMap_api_RouteMap__model_RouteMap_1 S.slices_IndexFunc_api_RouteMap_api_RouteMap__model_RouteMap_1
  refine s_bind (s_slices_IndexFunc_api_RouteMap_api_RouteMap__model_RouteMap_1_l1 a0 a1c0 ha0 ha1c0 0) (fun y4 hey4 => ?_)
  refine s_elim (fun _ hl => ?_) (fun y6 hly6 => ?_)
  · rfl
  · rfl
noncomputable def S.model_RouteMap (a0 : TRouter) (a1 : ByteArray) : Int :=
  letS (S.slices_IndexFunc_api_RouteMap_api_RouteMap__model_RouteMap_1 a0.fMaps a1) (fun r1 => r1)
theorem s_model_RouteMap (a0 : TRouter) (a1 : ByteArray) (ha0 : L_TRouter a0) (ha1 : a1.size ≤ maxLen) : M.model_RouteMap a0 a1 = some (S.model_RouteMap a0 a1) := by
  have hM := maxLen_eq
  unfold M.model_RouteMap S.model_RouteMap
  refine s_bind (s_slices_IndexFunc_api_RouteMap_api_RouteMap__model_RouteMap_1 a0.fMaps a1 (L_TRouter.fMaps ha0) ha1) (fun r1 her1 => ?_)
  rfl
theorem rng_model_RouteMap (a0 : TRouter) (a1 : ByteArray) : S.model_RouteMap a0 a1 < (a0.fMaps.length : Int) := by
  unfold S.model_RouteMap S.slices_IndexFunc_api_RouteMap_api_RouteMap__model_RouteMap_1
  simp only [letS]
  exact idx_lt (fun i => by unfold S.slices_IndexFunc_api_RouteMap_api_RouteMap__model_RouteMap_1_l1; simp only [letS]; cases S.model_RouteMap_1 (a0.fMaps.getD i default) a1 <;> simp) _
noncomputable def S.model_PrefixList_1 (a0 : TPrefixList) (b0 : ByteArray) : Bool :=
  strEq a0.fName b0
theorem s_model_PrefixList_1 (a0 : TPrefixList) (b0 : ByteArray) (ha0 : L_TPrefixList a0) (hb0 : b0.size ≤ maxLen) : M.model_PrefixList_1 a0 b0 = some (S.model_PrefixList_1 a0 b0) := by
  have hM := maxLen_eq
  unfold M.model_PrefixList_1 S.model_PrefixList_1
  rfl
noncomputable def S.slices_IndexFunc_api_PrefixList_api_PrefixList__model_PrefixList_1_l1 (a0 : List TPrefixList) (a1c0 : ByteArray) (i1 : Nat) : Option (Unit ⊕ Int) :=
  letS (S.model_PrefixList_1 (a0.getD i1 default) a1c0) (fun r3 => bif r3 then (some (.inr (i1 : Int))) else none)
theorem s_slices_IndexFunc_api_PrefixList_api_PrefixList__model_PrefixList_1_l1 (a0 : List TPrefixList) (a1c0 : ByteArray) (ha0 : LL L_TPrefixList a0) (ha1c0 : a1c0.size ≤ maxLen) (i0 : Nat) : loopM (M.slices_IndexFunc_api_PrefixList_api_PrefixList__model_PrefixList_1_l1 a0 a1c0) (i0 : Int) = some (runN (S.slices_IndexFunc_api_PrefixList_api_PrefixList__model_PrefixList_1_l1 a0 a1c0) (.inl ()) i0 (a0.length - i0)) := by
  have hM := maxLen_eq
  have hni1 : a0.length ≤ maxLen := ha0.1
  refine loop_runN (n := a0.length) (fun i1 hi1 => ?_) (fun m hm => ?_) i0
  · unfold M.slices_IndexFunc_api_PrefixList_api_PrefixList__model_PrefixList_1_l1 S.slices_IndexFunc_api_PrefixList_api_PrefixList__model_PrefixList_1_l1
    try simp only [Int.toNat_natCast]
    refine s_then (dt (by omega)) ?_
    refine s_bindN (s_model_PrefixList_1 (a0.getD i1 default) a1c0 (LL.getD ha0 L_TPrefixList.dflt i1) ha1c0) (fun r3 her3 => ?_)
    refine s_gd (all_c (dt (by omega)) (all_c (dt (by omega)) all_n)) ?_
    refine s_ifN (fun hb1 => ?_) (fun hb1 => ?_)
    · exact s_out
    · exact s_up (by omega)
  · unfold M.slices_IndexFunc_api_PrefixList_api_PrefixList__model_PrefixList_1_l1
    try simp only [Int.toNat_natCast]
    exact s_else (decide_eq_false (by omega)) rfl
noncomputable def S.slices_IndexFunc_api_PrefixList_api_PrefixList__model_PrefixList_1 (a0 : List TPrefixList) (a1c0 : ByteArray) : Int :=
  letS (runN (S.slices_IndexFunc_api_PrefixList_api_PrefixList__model_PrefixList_1_l1 a0 a1c0) (.inl ()) 0 a0.length) (fun y4 => Sum.elim (fun _ => -1) (fun y6 => y6) y4)
theorem s_slices_IndexFunc_api_PrefixList_api_PrefixList__model_PrefixList_1 (a0 : List TPrefixList) (a1c0 : ByteArray) (ha0 : LL L_TPrefixList a0) (ha1c0 : a1c0.size ≤ maxLen) : M.slices_IndexFunc_api_PrefixList_api_PrefixList__model_PrefixList_1 a0 a1c0 = some (S.slices_IndexFunc_api_PrefixList_api_PrefixList__model_PrefixList_1 a0 a1c0) := by
  have hM := maxLen_eq
  unfold M.slices_IndexFunc_api_PrefixList_api_PrefixList__model_PrefixList_1 S.slices_IndexFunc_api_PrefixList_api_PrefixList__model_PrefixList_1
  refine s_bind (s_slices_IndexFunc_api_PrefixList_api_PrefixList__model_PrefixList_1_l1 a0 a1c0 ha0 ha1c0 0) (fun y4 hey4 => ?_)
  refine s_elim (fun _ hl => ?_) (fun y6 hly6 => ?_)
  · rfl
  · rfl
noncomputable def S.model_PrefixList (a0 : TRouter) (a1 : ByteArray) : Int :=
  letS (S.slices_IndexFunc_api_PrefixList_api_PrefixList__model_PrefixList_1 a0.fLists a1) (fun r1 => r1)
theorem s_model_PrefixList (a0 : TRouter) (a1 : ByteArray) (ha0 : L_TRouter a0) (ha1 : a1.size ≤ maxLen) : M.model_PrefixList a0 a1 = some (S.model_PrefixList a0 a1) := by
  have hM := maxLen_eq
  unfold M.model_PrefixList S.model_PrefixList
  refine s_bind (s_slices_IndexFunc_api_PrefixList_api_PrefixList__model_PrefixList_1 a0.fLists a1 (L_TRouter.fLists ha0) ha1) (fun r1 her1 => ?_)
  rfl
theorem rng_model_PrefixList (a0 : TRouter) (a1 : ByteArray) : S.model_PrefixList a0 a1 < (a0.fLists.length : Int) := by
  unfold S.model_PrefixList S.slices_IndexFunc_api_PrefixList_api_PrefixList__model_PrefixList_1
  simp only [letS]
  exact idx_lt (fun i => by unfold S.slices_IndexFunc_api_PrefixList_api_PrefixList__model_PrefixList_1_l1; simp only [letS]; cases S.model_PrefixList_1 (a0.fLists.getD i default) a1 <;> simp) _
noncomputable def S.addr_Contains (a0 : TPrefix) (a1 : Int) : Bool :=
  letS (S.addr_Mask a0.fLen) (fun r1 => (bitD .and .u32 a1 r1) == a0.fAddr)
theorem s_addr_Contains (a0 : TPrefix) (a1 : Int)  : M.addr_Contains a0 a1 = some (S.addr_Contains a0 a1) := by
  have hM := maxLen_eq
  unfold M.addr_Contains S.addr_Contains
  refine s_bind (s_addr_Mask a0.fLen) (fun r1 her1 => ?_)
  rfl
noncomputable def S.addr_Covers (a0 : TPrefix) (a1 : TPrefix) : Bool :=
  letS (bif (decide (a0.fLen ≤ a1.fLen)) then S.addr_Contains a0 a1.fAddr else default) (fun r1 => (decide (a0.fLen ≤ a1.fLen)) && r1)
theorem s_addr_Covers (a0 : TPrefix) (a1 : TPrefix)  : M.addr_Covers a0 a1 = some (S.addr_Covers a0 a1) := by
  have hM := maxLen_eq
  unfold M.addr_Covers S.addr_Covers
  refine s_bind (s_gc fun hg => (s_addr_Contains a0 a1.fAddr)) (fun r1 her1 => ?_)
  rfl
noncomputable def S.policy_Matches (a0 : TPrefixRule) (a1 : TPrefix) : Bool :=
  letS (S.addr_Covers a0.fPrefix a1) (fun r1 => (r1 && (decide (a0.fMin ≤ a1.fLen))) && (decide (a1.fLen ≤ a0.fMax)))
theorem s_policy_Matches (a0 : TPrefixRule) (a1 : TPrefix)  : M.policy_Matches a0 a1 = some (S.policy_Matches a0 a1) := by
  have hM := maxLen_eq
  unfold M.policy_Matches S.policy_Matches
  refine s_bind (s_addr_Covers a0.fPrefix a1) (fun r1 her1 => ?_)
  rfl
noncomputable def S.policy_First_l1 (a0 : TPrefixList) (a1 : TPrefix) (i1 : Nat) : Option (Unit ⊕ Int) :=
  letS (S.policy_Matches (a0.fRules.getD i1 default) a1) (fun r3 => bif r3 then (some (.inr (i1 : Int))) else none)
theorem s_policy_First_l1 (a0 : TPrefixList) (a1 : TPrefix) (ha0 : L_TPrefixList a0) (i0 : Nat) : loopM (M.policy_First_l1 a0 a1) (i0 : Int) = some (runN (S.policy_First_l1 a0 a1) (.inl ()) i0 (a0.fRules.length - i0)) := by
  have hM := maxLen_eq
  have hni1 : a0.fRules.length ≤ maxLen := (L_TPrefixList.fRules ha0)
  refine loop_runN (n := a0.fRules.length) (fun i1 hi1 => ?_) (fun m hm => ?_) i0
  · unfold M.policy_First_l1 S.policy_First_l1
    try simp only [Int.toNat_natCast]
    refine s_then (dt (by omega)) ?_
    refine s_gd (all_c (dt (by omega)) (all_c (dt (by omega)) all_n)) ?_
    refine s_bindN (s_policy_Matches (a0.fRules.getD i1 default) a1) (fun r3 her3 => ?_)
    refine s_ifN (fun hb1 => ?_) (fun hb1 => ?_)
    · exact s_out
    · exact s_up (by omega)
  · unfold M.policy_First_l1
    try simp only [Int.toNat_natCast]
    exact s_else (decide_eq_false (by omega)) rfl
noncomputable def S.policy_First (a0 : TPrefixList) (a1 : TPrefix) : Int :=
  letS (runN (S.policy_First_l1 a0 a1) (.inl ()) 0 a0.fRules.length) (fun y4 => Sum.elim (fun _ => -1) (fun y6 => y6) y4)
theorem s_policy_First (a0 : TPrefixList) (a1 : TPrefix) (ha0 : L_TPrefixList a0) : M.policy_First a0 a1 = some (S.policy_First a0 a1) := by
  have hM := maxLen_eq
  unfold M.policy_First S.policy_First
  refine s_bind (s_policy_First_l1 a0 a1 ha0 0) (fun y4 hey4 => ?_)
  refine s_elim (fun _ hl => ?_) (fun y6 hly6 => ?_)
  · rfl
  · rfl
theorem rng_policy_First (a0 : TPrefixList) (a1 : TPrefix) : S.policy_First a0 a1 < (a0.fRules.length : Int) := by
  unfold S.policy_First
  simp only [letS]
  exact idx_lt (fun i => by unfold S.policy_First_l1; simp only [letS]; cases S.policy_Matches (a0.fRules.getD i default) a1 <;> simp) _
noncomputable def S.policy_Permits (a0 : TRouter) (a1 : ByteArray) (a2 : TPrefix) : Bool :=
  bif strEq a1 (⟨#[]⟩ : ByteArray) then true else (letS (S.model_PrefixList a0 a1) (fun r1 => bif decide (r1 < 0) then false else (letS (S.policy_First (a0.fLists.getD r1.toNat default) a2) (fun r2 => (decide (r2 ≥ 0)) && ((((a0.fLists.getD r1.toNat default).fRules).getD r2.toNat default).fPermit)))))
theorem s_policy_Permits (a0 : TRouter) (a1 : ByteArray) (a2 : TPrefix) (ha0 : L_TRouter a0) (ha1 : a1.size ≤ maxLen) : M.policy_Permits a0 a1 a2 = some (S.policy_Permits a0 a1 a2) := by
  have hM := maxLen_eq
  unfold M.policy_Permits S.policy_Permits
  refine s_if (fun hb1 => ?_) (fun hb1 => ?_)
  · rfl
  · refine s_bind (s_model_PrefixList a0 a1 ha0 ha1) (fun r1 her1 => ?_)
    have hrr1 := rng_model_PrefixList a0 a1
    refine s_if (fun hb2 => ?_) (fun hb2 => ?_)
    · rfl
    · refine s_bind (s_policy_First (a0.fLists.getD r1.toNat default) a2 (LL.getD (L_TRouter.fLists ha0) L_TPrefixList.dflt r1.toNat)) (fun r2 her2 => ?_)
      have hrr2 := rng_policy_First (a0.fLists.getD r1.toNat default) a2
      refine s_gd (all_c (dt (by first | omega | (simp; omega) | (simp at *; omega))) (all_c (dt (by first | omega | (simp; omega) | (simp at *; omega))) all_n)) ?_
      refine s_gd (all_c (s_guard fun hg => (dt (by first | omega | (simp; omega) | (simp at *; omega)))) (all_c (s_guard fun hg => (dt (by first | omega | (simp; omega) | (simp at *; omega)))) (all_c (s_guard fun hg => (dt (by first | omega | (simp; omega) | (simp at *; omega)))) (all_c (s_guard fun hg => (dt (by first | omega | (simp; omega) | (simp at *; omega)))) all_n)))) ?_
      rfl
noncomputable def S.policy_Clause_l1 (a0 : TRouter) (a2 : TRoute) (r1 : Int) (i2 : Nat) : Option (Unit ⊕ Int) :=
  letS (S.policy_Permits a0 ((((a0.fMaps.getD r1.toNat default).fClauses).getD i2 default).fList) a2.fPrefix) (fun r4 => bif r4 && ((((((a0.fMaps.getD r1.toNat default).fClauses).getD i2 default).fTag) == (-1)) || (((((a0.fMaps.getD r1.toNat default).fClauses).getD i2 default).fTag) == a2.fTag)) then (some (.inr (i2 : Int))) else none)
theorem s_policy_Clause_l1 (a0 : TRouter) (a2 : TRoute) (r1 : Int) (ha0 : L_TRouter a0) (ha2 : L_TRoute a2) (i0 : Nat) : loopM (M.policy_Clause_l1 a0 a2 r1) (i0 : Int) = some (runN (S.policy_Clause_l1 a0 a2 r1) (.inl ()) i0 (((a0.fMaps.getD r1.toNat default).fClauses).length - i0)) := by
  have hM := maxLen_eq
  have hni2 : ((a0.fMaps.getD r1.toNat default).fClauses).length ≤ maxLen := (L_TRouteMap.fClauses (LL.getD (L_TRouter.fMaps ha0) L_TRouteMap.dflt r1.toNat)).1
  refine loop_runN (n := ((a0.fMaps.getD r1.toNat default).fClauses).length) (fun i2 hi2 => ?_) (fun m hm => ?_) i0
  · unfold M.policy_Clause_l1 S.policy_Clause_l1
    try simp only [Int.toNat_natCast]
    refine s_then (dt (by omega)) ?_
    refine s_gd (all_c (dt (by omega)) (all_c (dt (by first | omega | (simp; omega) | (simp at *; omega))) all_n)) ?_
    refine s_bindN (s_policy_Permits a0 ((((a0.fMaps.getD r1.toNat default).fClauses).getD i2 default).fList) a2.fPrefix ha0 (L_TClause.fList (LL.getD (L_TRouteMap.fClauses (LL.getD (L_TRouter.fMaps ha0) L_TRouteMap.dflt r1.toNat)) L_TClause.dflt i2))) (fun r4 her4 => ?_)
    refine s_ifN (fun hb2 => ?_) (fun hb2 => ?_)
    · exact s_out
    · exact s_up (by omega)
  · unfold M.policy_Clause_l1
    try simp only [Int.toNat_natCast]
    exact s_else (decide_eq_false (by omega)) rfl
noncomputable def S.policy_Clause (a0 : TRouter) (a1 : ByteArray) (a2 : TRoute) : Int :=
  letS (S.model_RouteMap a0 a1) (fun r1 => bif decide (r1 < 0) then (-1) else (letS (runN (S.policy_Clause_l1 a0 a2 r1) (.inl ()) 0 (((a0.fMaps.getD r1.toNat default).fClauses).length)) (fun y5 => Sum.elim (fun _ => -1) (fun y7 => y7) y5)))
theorem s_policy_Clause (a0 : TRouter) (a1 : ByteArray) (a2 : TRoute) (ha0 : L_TRouter a0) (ha1 : a1.size ≤ maxLen) (ha2 : L_TRoute a2) : M.policy_Clause a0 a1 a2 = some (S.policy_Clause a0 a1 a2) := by
  have hM := maxLen_eq
  unfold M.policy_Clause S.policy_Clause
  refine s_bind (s_model_RouteMap a0 a1 ha0 ha1) (fun r1 her1 => ?_)
  have hrr1 := rng_model_RouteMap a0 a1
  refine s_if (fun hb1 => ?_) (fun hb1 => ?_)
  · rfl
  · refine s_gd (all_c (dt (by first | omega | (simp; omega) | (simp at *; omega))) (all_c (dt (by first | omega | (simp; omega) | (simp at *; omega))) all_n)) ?_
    refine s_bind (s_policy_Clause_l1 a0 a2 r1 ha0 ha2 0) (fun y5 hey5 => ?_)
    refine s_elim (fun _ hl => ?_) (fun y7 hly7 => ?_)
    · rfl
    · rfl
noncomputable def S.rib_values_k2 (a0 : TRouter) (r1 : Int) (r2 : Int) (p3 : Int) (p4 : Int) : Int × Int × Bool :=
  (p3, p4, (((a0.fMaps.getD r1.toNat default).fClauses).getD r2.toNat default).fPermit)
theorem s_rib_values_k2 (a0 : TRouter) (r1 : Int) (r2 : Int) (p3 : Int) (p4 : Int) (ha0 : L_TRouter a0) : M.rib_values_k2 a0 r1 r2 p3 p4 = some (S.rib_values_k2 a0 r1 r2 p3 p4) := by
  have hM := maxLen_eq
  unfold M.rib_values_k2 S.rib_values_k2
  rfl
noncomputable def S.rib_values_k1 (a0 : TRouter) (a1 : TRedist) (r1 : Int) (r2 : Int) (p3 : Int) : Int × Int × Bool :=
  bif ((((a0.fMaps.getD r1.toNat default).fClauses).getD r2.toNat default).fSetTag) != (-1) then (S.rib_values_k2 a0 r1 r2 p3 ((((a0.fMaps.getD r1.toNat default).fClauses).getD r2.toNat default).fSetTag)) else (S.rib_values_k2 a0 r1 r2 p3 a1.fTag)
theorem s_rib_values_k1 (a0 : TRouter) (a1 : TRedist) (r1 : Int) (r2 : Int) (p3 : Int) (ha0 : L_TRouter a0) (ha1 : L_TRedist a1) : M.rib_values_k1 a0 a1 r1 r2 p3 = some (S.rib_values_k1 a0 a1 r1 r2 p3) := by
  have hM := maxLen_eq
  unfold M.rib_values_k1 S.rib_values_k1
  refine s_if (fun hb4 => ?_) (fun hb4 => ?_)
  · exact s_rib_values_k2 a0 r1 r2 p3 ((((a0.fMaps.getD r1.toNat default).fClauses).getD r2.toNat default).fSetTag) ha0
  · exact s_rib_values_k2 a0 r1 r2 p3 a1.fTag ha0
noncomputable def S.rib_values (a0 : TRouter) (a1 : TRedist) (a2 : TRoute) : Int × Int × Bool :=
  bif strEq a1.fMap (⟨#[]⟩ : ByteArray) then (a1.fMetric, a1.fTag, true) else (letS (S.model_RouteMap a0 a1.fMap) (fun r1 => letS (S.policy_Clause a0 a1.fMap a2) (fun r2 => bif (((decide (r1 < 0)) || (decide (r1 ≥ (a0.fMaps.length : Int)))) || (decide (r2 < 0))) || (decide (r2 ≥ (((a0.fMaps.getD r1.toNat default).fClauses).length : Int))) then (0, 0, false) else (bif ((((a0.fMaps.getD r1.toNat default).fClauses).getD r2.toNat default).fSetMetric) != (-1) then (S.rib_values_k1 a0 a1 r1 r2 ((((a0.fMaps.getD r1.toNat default).fClauses).getD r2.toNat default).fSetMetric)) else (S.rib_values_k1 a0 a1 r1 r2 a1.fMetric)))))
theorem s_rib_values (a0 : TRouter) (a1 : TRedist) (a2 : TRoute) (ha0 : L_TRouter a0) (ha1 : L_TRedist a1) (ha2 : L_TRoute a2) : M.rib_values a0 a1 a2 = some (S.rib_values a0 a1 a2) := by
  have hM := maxLen_eq
  unfold M.rib_values S.rib_values
  refine s_if (fun hb1 => ?_) (fun hb1 => ?_)
  · rfl
  · refine s_bind (s_model_RouteMap a0 a1.fMap ha0 (L_TRedist.fMap ha1)) (fun r1 her1 => ?_)
    have hrr1 := rng_model_RouteMap a0 a1.fMap
    refine s_bind (s_policy_Clause a0 a1.fMap a2 ha0 (L_TRedist.fMap ha1) ha2) (fun r2 her2 => ?_)
    refine s_gd (all_c (s_guard fun hg => (dt (by first | omega | (simp; omega) | (simp at *; omega)))) (all_c (s_guard fun hg => (dt (by first | omega | (simp; omega) | (simp at *; omega)))) all_n)) ?_
    refine s_if (fun hb2 => ?_) (fun hb2 => ?_)
    · rfl
    · refine s_gd (all_c (dt (by first | omega | (simp; omega) | (simp at *; omega))) (all_c (dt (by first | omega | (simp; omega) | (simp at *; omega))) (all_c (dt (by first | omega | (simp; omega) | (simp at *; omega))) (all_c (dt (by first | omega | (simp; omega) | (simp at *; omega))) all_n)))) ?_
      refine s_if (fun hb3 => ?_) (fun hb3 => ?_)
      · exact s_rib_values_k1 a0 a1 r1 r2 ((((a0.fMaps.getD r1.toNat default).fClauses).getD r2.toNat default).fSetMetric) ha0 ha1
      · exact s_rib_values_k1 a0 a1 r1 r2 a1.fMetric ha0 ha1
end Nv
