/- Total forms of the mirrors. -/
import Derived.Test.YtmangnohekiphaaNvD1
import Derived.Test.YtmangnohekiphaaNvLibB
import Derived.Test.YtmangnohekiphaaNvQ0
set_option maxRecDepth 100000
namespace Nv
open Go
def L_TInterface (x : TInterface) : Prop := (x.fName.size ≤ maxLen) ∧ (x.fIn.size ≤ maxLen) ∧ (x.fOut.size ≤ maxLen)
theorem L_TInterface.fName {x : TInterface} (h : L_TInterface x) : x.fName.size ≤ maxLen := h.1
theorem L_TInterface.fIn {x : TInterface} (h : L_TInterface x) : x.fIn.size ≤ maxLen := h.2.1
theorem L_TInterface.fOut {x : TInterface} (h : L_TInterface x) : x.fOut.size ≤ maxLen := h.2.2
theorem L_TInterface.dflt : L_TInterface default := ⟨(Nat.zero_le _), (Nat.zero_le _), (Nat.zero_le _)⟩
def L_TPrefixList (x : TPrefixList) : Prop := (x.fName.size ≤ maxLen) ∧ (x.fRules.length ≤ maxLen)
theorem L_TPrefixList.fName {x : TPrefixList} (h : L_TPrefixList x) : x.fName.size ≤ maxLen := h.1
theorem L_TPrefixList.fRules {x : TPrefixList} (h : L_TPrefixList x) : x.fRules.length ≤ maxLen := h.2
theorem L_TPrefixList.dflt : L_TPrefixList default := ⟨(Nat.zero_le _), (Nat.zero_le _)⟩
def L_TClause (x : TClause) : Prop := (x.fList.size ≤ maxLen)
theorem L_TClause.fList {x : TClause} (h : L_TClause x) : x.fList.size ≤ maxLen := h
theorem L_TClause.dflt : L_TClause default := (Nat.zero_le _)
def L_TRouteMap (x : TRouteMap) : Prop := (x.fName.size ≤ maxLen) ∧ (LL L_TClause x.fClauses)
theorem L_TRouteMap.fName {x : TRouteMap} (h : L_TRouteMap x) : x.fName.size ≤ maxLen := h.1
theorem L_TRouteMap.fClauses {x : TRouteMap} (h : L_TRouteMap x) : LL L_TClause x.fClauses := h.2
theorem L_TRouteMap.dflt : L_TRouteMap default := ⟨(Nat.zero_le _), ⟨Nat.zero_le _, fun _ h => absurd h List.not_mem_nil⟩⟩
def L_TACL (x : TACL) : Prop := (x.fName.size ≤ maxLen) ∧ (x.fRules.length ≤ maxLen)
theorem L_TACL.fName {x : TACL} (h : L_TACL x) : x.fName.size ≤ maxLen := h.1
theorem L_TACL.fRules {x : TACL} (h : L_TACL x) : x.fRules.length ≤ maxLen := h.2
theorem L_TACL.dflt : L_TACL default := ⟨(Nat.zero_le _), (Nat.zero_le _)⟩
def L_TTranslation (x : TTranslation) : Prop := (x.fList.size ≤ maxLen)
theorem L_TTranslation.fList {x : TTranslation} (h : L_TTranslation x) : x.fList.size ≤ maxLen := h
theorem L_TTranslation.dflt : L_TTranslation default := (Nat.zero_le _)
def L_TStaticRoute (x : TStaticRoute) : Prop := (x.fIface.size ≤ maxLen)
theorem L_TStaticRoute.fIface {x : TStaticRoute} (h : L_TStaticRoute x) : x.fIface.size ≤ maxLen := h
theorem L_TStaticRoute.dflt : L_TStaticRoute default := (Nat.zero_le _)
def L_TRedist (x : TRedist) : Prop := (x.fMap.size ≤ maxLen)
theorem L_TRedist.fMap {x : TRedist} (h : L_TRedist x) : x.fMap.size ≤ maxLen := h
theorem L_TRedist.dflt : L_TRedist default := (Nat.zero_le _)
def L_TLinkState (x : TLinkState) : Prop := (x.fRanges.length ≤ maxLen) ∧ (LL L_TRedist x.fRedist)
theorem L_TLinkState.fRanges {x : TLinkState} (h : L_TLinkState x) : x.fRanges.length ≤ maxLen := h.1
theorem L_TLinkState.fRedist {x : TLinkState} (h : L_TLinkState x) : LL L_TRedist x.fRedist := h.2
theorem L_TLinkState.dflt : L_TLinkState default := ⟨(Nat.zero_le _), ⟨Nat.zero_le _, fun _ h => absurd h List.not_mem_nil⟩⟩
def L_TDistanceVector (x : TDistanceVector) : Prop := (x.fIn.size ≤ maxLen) ∧ (x.fOut.size ≤ maxLen) ∧ (LL L_TRedist x.fRedist)
theorem L_TDistanceVector.fIn {x : TDistanceVector} (h : L_TDistanceVector x) : x.fIn.size ≤ maxLen := h.1
theorem L_TDistanceVector.fOut {x : TDistanceVector} (h : L_TDistanceVector x) : x.fOut.size ≤ maxLen := h.2.1
theorem L_TDistanceVector.fRedist {x : TDistanceVector} (h : L_TDistanceVector x) : LL L_TRedist x.fRedist := h.2.2
theorem L_TDistanceVector.dflt : L_TDistanceVector default := ⟨(Nat.zero_le _), (Nat.zero_le _), ⟨Nat.zero_le _, fun _ h => absurd h List.not_mem_nil⟩⟩
def L_TNeighbor (x : TNeighbor) : Prop := (x.fIn.size ≤ maxLen) ∧ (x.fOut.size ≤ maxLen)
theorem L_TNeighbor.fIn {x : TNeighbor} (h : L_TNeighbor x) : x.fIn.size ≤ maxLen := h.1
theorem L_TNeighbor.fOut {x : TNeighbor} (h : L_TNeighbor x) : x.fOut.size ≤ maxLen := h.2
theorem L_TNeighbor.dflt : L_TNeighbor default := ⟨(Nat.zero_le _), (Nat.zero_le _)⟩
def L_TPathVector (x : TPathVector) : Prop := (LL L_TNeighbor x.fNeighbors) ∧ (x.fNetworks.length ≤ maxLen) ∧ (x.fAggregates.length ≤ maxLen) ∧ (x.fConditions.length ≤ maxLen) ∧ (LL L_TRedist x.fRedist)
theorem L_TPathVector.fNeighbors {x : TPathVector} (h : L_TPathVector x) : LL L_TNeighbor x.fNeighbors := h.1
theorem L_TPathVector.fNetworks {x : TPathVector} (h : L_TPathVector x) : x.fNetworks.length ≤ maxLen := h.2.1
theorem L_TPathVector.fAggregates {x : TPathVector} (h : L_TPathVector x) : x.fAggregates.length ≤ maxLen := h.2.2.1
theorem L_TPathVector.fConditions {x : TPathVector} (h : L_TPathVector x) : x.fConditions.length ≤ maxLen := h.2.2.2.1
theorem L_TPathVector.fRedist {x : TPathVector} (h : L_TPathVector x) : LL L_TRedist x.fRedist := h.2.2.2.2
theorem L_TPathVector.dflt : L_TPathVector default := ⟨⟨Nat.zero_le _, fun _ h => absurd h List.not_mem_nil⟩, (Nat.zero_le _), (Nat.zero_le _), (Nat.zero_le _), ⟨Nat.zero_le _, fun _ h => absurd h List.not_mem_nil⟩⟩
def L_TRouter (x : TRouter) : Prop := (x.fName.size ≤ maxLen) ∧ (LL L_TInterface x.fInterfaces) ∧ (LL L_TPrefixList x.fLists) ∧ (LL L_TRouteMap x.fMaps) ∧ (LL L_TACL x.fACLs) ∧ (LL L_TTranslation x.fNAT) ∧ (LL L_TStaticRoute x.fStatics) ∧ (L_TLinkState x.fLS) ∧ (L_TDistanceVector x.fDV) ∧ (L_TPathVector x.fPV)
theorem L_TRouter.fName {x : TRouter} (h : L_TRouter x) : x.fName.size ≤ maxLen := h.1
theorem L_TRouter.fInterfaces {x : TRouter} (h : L_TRouter x) : LL L_TInterface x.fInterfaces := h.2.1
theorem L_TRouter.fLists {x : TRouter} (h : L_TRouter x) : LL L_TPrefixList x.fLists := h.2.2.1
theorem L_TRouter.fMaps {x : TRouter} (h : L_TRouter x) : LL L_TRouteMap x.fMaps := h.2.2.2.1
theorem L_TRouter.fACLs {x : TRouter} (h : L_TRouter x) : LL L_TACL x.fACLs := h.2.2.2.2.1
theorem L_TRouter.fNAT {x : TRouter} (h : L_TRouter x) : LL L_TTranslation x.fNAT := h.2.2.2.2.2.1
theorem L_TRouter.fStatics {x : TRouter} (h : L_TRouter x) : LL L_TStaticRoute x.fStatics := h.2.2.2.2.2.2.1
theorem L_TRouter.fLS {x : TRouter} (h : L_TRouter x) : L_TLinkState x.fLS := h.2.2.2.2.2.2.2.1
theorem L_TRouter.fDV {x : TRouter} (h : L_TRouter x) : L_TDistanceVector x.fDV := h.2.2.2.2.2.2.2.2.1
theorem L_TRouter.fPV {x : TRouter} (h : L_TRouter x) : L_TPathVector x.fPV := h.2.2.2.2.2.2.2.2.2
theorem L_TRouter.dflt : L_TRouter default := ⟨(Nat.zero_le _), ⟨Nat.zero_le _, fun _ h => absurd h List.not_mem_nil⟩, ⟨Nat.zero_le _, fun _ h => absurd h List.not_mem_nil⟩, ⟨Nat.zero_le _, fun _ h => absurd h List.not_mem_nil⟩, ⟨Nat.zero_le _, fun _ h => absurd h List.not_mem_nil⟩, ⟨Nat.zero_le _, fun _ h => absurd h List.not_mem_nil⟩, ⟨Nat.zero_le _, fun _ h => absurd h List.not_mem_nil⟩, L_TLinkState.dflt, L_TDistanceVector.dflt, L_TPathVector.dflt⟩
noncomputable def S.law5_Small_l1 (a0 : TRouter) (i1 : Nat) : Option (Unit ⊕ Bool) :=
  bif decide ((((a0.fLists.getD i1 default).fRules).length : Int) > 20) then (some (.inr false)) else none
theorem s_law5_Small_l1 (a0 : TRouter) (ha0 : L_TRouter a0) (i0 : Nat) : loopM (M.law5_Small_l1 a0) (i0 : Int) = some (runN (S.law5_Small_l1 a0) (.inl ()) i0 (a0.fLists.length - i0)) := by
  have hM := maxLen_eq
  have hni1 : a0.fLists.length ≤ maxLen := (L_TRouter.fLists ha0).1
  refine loop_runN (n := a0.fLists.length) (fun i1 hi1 => ?_) (fun m hm => ?_) i0
  · unfold M.law5_Small_l1 S.law5_Small_l1
    try simp only [Int.toNat_natCast]
    refine s_then (dt (by omega)) ?_
    refine s_gd (all_c (dt (by omega)) (all_c (dt (by omega)) all_n)) ?_
    refine s_ifN (fun hb2 => ?_) (fun hb2 => ?_)
    · exact s_out
    · exact s_up (by omega)
  · unfold M.law5_Small_l1
    try simp only [Int.toNat_natCast]
    exact s_else (decide_eq_false (by omega)) rfl
noncomputable def S.law5_Small_l2 (a0 : TRouter) (i6 : Nat) : Option (Unit ⊕ Bool) :=
  bif decide ((((a0.fMaps.getD i6 default).fClauses).length : Int) > 12) then (some (.inr false)) else none
theorem s_law5_Small_l2 (a0 : TRouter) (ha0 : L_TRouter a0) (i0 : Nat) : loopM (M.law5_Small_l2 a0) (i0 : Int) = some (runN (S.law5_Small_l2 a0) (.inl ()) i0 (a0.fMaps.length - i0)) := by
  have hM := maxLen_eq
  have hni6 : a0.fMaps.length ≤ maxLen := (L_TRouter.fMaps ha0).1
  refine loop_runN (n := a0.fMaps.length) (fun i6 hi6 => ?_) (fun m hm => ?_) i0
  · unfold M.law5_Small_l2 S.law5_Small_l2
    try simp only [Int.toNat_natCast]
    refine s_then (dt (by omega)) ?_
    refine s_gd (all_c (dt (by omega)) (all_c (dt (by omega)) all_n)) ?_
    refine s_ifN (fun hb3 => ?_) (fun hb3 => ?_)
    · exact s_out
    · exact s_up (by omega)
  · unfold M.law5_Small_l2
    try simp only [Int.toNat_natCast]
    exact s_else (decide_eq_false (by omega)) rfl
noncomputable def S.law5_Small_l3 (a0 : TRouter) (i11 : Nat) : Option (Unit ⊕ Bool) :=
  bif decide ((((a0.fACLs.getD i11 default).fRules).length : Int) > 20) then (some (.inr false)) else none
theorem s_law5_Small_l3 (a0 : TRouter) (ha0 : L_TRouter a0) (i0 : Nat) : loopM (M.law5_Small_l3 a0) (i0 : Int) = some (runN (S.law5_Small_l3 a0) (.inl ()) i0 (a0.fACLs.length - i0)) := by
  have hM := maxLen_eq
  have hni11 : a0.fACLs.length ≤ maxLen := (L_TRouter.fACLs ha0).1
  refine loop_runN (n := a0.fACLs.length) (fun i11 hi11 => ?_) (fun m hm => ?_) i0
  · unfold M.law5_Small_l3 S.law5_Small_l3
    try simp only [Int.toNat_natCast]
    refine s_then (dt (by omega)) ?_
    refine s_gd (all_c (dt (by omega)) (all_c (dt (by omega)) all_n)) ?_
    refine s_ifN (fun hb4 => ?_) (fun hb4 => ?_)
    · exact s_out
    · exact s_up (by omega)
  · unfold M.law5_Small_l3
    try simp only [Int.toNat_natCast]
    exact s_else (decide_eq_false (by omega)) rfl
noncomputable def S.law5_Small (a0 : TRouter) : Bool :=
  bif (((((((((((((decide ((a0.fInterfaces.length : Int) > 12)) || (decide ((a0.fLists.length : Int) > 12))) || (decide ((a0.fMaps.length : Int) > 12))) || (decide ((a0.fACLs.length : Int) > 12))) || (decide ((a0.fNAT.length : Int) > 12))) || (decide ((a0.fStatics.length : Int) > 20))) || (decide ((a0.fLS.fRanges.length : Int) > 8))) || (decide ((a0.fLS.fRedist.length : Int) > 8))) || (decide ((a0.fDV.fRedist.length : Int) > 8))) || (decide ((a0.fPV.fRedist.length : Int) > 8))) || (decide ((a0.fPV.fNeighbors.length : Int) > 12))) || (decide ((a0.fPV.fNetworks.length : Int) > 12))) || (decide ((a0.fPV.fAggregates.length : Int) > 12))) || (decide ((a0.fPV.fConditions.length : Int) > 12)) then false else (letS (runN (S.law5_Small_l1 a0) (.inl ()) 0 a0.fLists.length) (fun y3 => Sum.elim (fun _ => letS (runN (S.law5_Small_l2 a0) (.inl ()) 0 a0.fMaps.length) (fun y8 => Sum.elim (fun _ => letS (runN (S.law5_Small_l3 a0) (.inl ()) 0 a0.fACLs.length) (fun y13 => Sum.elim (fun _ => true) (fun y15 => y15) y13)) (fun y10 => y10) y8)) (fun y5 => y5) y3))
theorem s_law5_Small (a0 : TRouter) (ha0 : L_TRouter a0) : M.law5_Small a0 = some (S.law5_Small a0) := by
  have hM := maxLen_eq
  unfold M.law5_Small S.law5_Small
  refine s_if (fun hb1 => ?_) (fun hb1 => ?_)
  · rfl
  · refine s_bind (s_law5_Small_l1 a0 ha0 0) (fun y3 hey3 => ?_)
    refine s_elim (fun _ hl => ?_) (fun y5 hly5 => ?_)
    · refine s_bind (s_law5_Small_l2 a0 ha0 0) (fun y8 hey8 => ?_)
      refine s_elim (fun _ hl => ?_) (fun y10 hly10 => ?_)
      · refine s_bind (s_law5_Small_l3 a0 ha0 0) (fun y13 hey13 => ?_)
        refine s_elim (fun _ hl => ?_) (fun y15 hly15 => ?_)
        · rfl
        · rfl
      · rfl
    · rfl
noncomputable def S.slices_Equal_api_Interface_api_Interface_l1 (a0 : List TInterface) (a1 : List TInterface) (i1 : Nat) : Option (Unit ⊕ Bool) :=
  bif !(strEq ((a0.getD i1 default).fName) ((a1.getD i1 default).fName) && ((((a0.getD i1 default).fAddr) == ((a1.getD i1 default).fAddr)) && ((((a0.getD i1 default).fLen) == ((a1.getD i1 default).fLen)) && ((((a0.getD i1 default).fVLAN) == ((a1.getD i1 default).fVLAN)) && ((((a0.getD i1 default).fDown) == ((a1.getD i1 default).fDown)) && ((((a0.getD i1 default).fLS) == ((a1.getD i1 default).fLS)) && ((((a0.getD i1 default).fArea) == ((a1.getD i1 default).fArea)) && ((((a0.getD i1 default).fCost) == ((a1.getD i1 default).fCost)) && ((((a0.getD i1 default).fDV) == ((a1.getD i1 default).fDV)) && (strEq ((a0.getD i1 default).fIn) ((a1.getD i1 default).fIn) && (strEq ((a0.getD i1 default).fOut) ((a1.getD i1 default).fOut) && ((((a0.getD i1 default).fSide) == ((a1.getD i1 default).fSide)) && true)))))))))))) then (some (.inr false)) else none
theorem s_slices_Equal_api_Interface_api_Interface_l1 (a0 : List TInterface) (a1 : List TInterface) (ha0 : LL L_TInterface a0) (ha1 : LL L_TInterface a1) (hlen : a0.length = a1.length) (i0 : Nat) : loopM (M.slices_Equal_api_Interface_api_Interface_l1 a0 a1) (i0 : Int) = some (runN (S.slices_Equal_api_Interface_api_Interface_l1 a0 a1) (.inl ()) i0 (a0.length - i0)) := by
  have hM := maxLen_eq
  have hni1 : a0.length ≤ maxLen := ha0.1
  refine loop_runN (n := a0.length) (fun i1 hi1 => ?_) (fun m hm => ?_) i0
  · unfold M.slices_Equal_api_Interface_api_Interface_l1 S.slices_Equal_api_Interface_api_Interface_l1
    try simp only [Int.toNat_natCast]
    refine s_then (dt (by omega)) ?_
    refine s_gd (all_c (dt (by omega)) (all_c (dt (by omega)) (all_c (dt (by omega)) (all_c (dt (by omega)) all_n)))) ?_
    refine s_ifN (fun hb2 => ?_) (fun hb2 => ?_)
    · exact s_out
    · exact s_up (by omega)
  · unfold M.slices_Equal_api_Interface_api_Interface_l1
    try simp only [Int.toNat_natCast]
    exact s_else (decide_eq_false (by omega)) rfl
noncomputable def S.slices_Equal_api_Interface_api_Interface (a0 : List TInterface) (a1 : List TInterface) : Bool :=
  bif (a0.length : Int) != (a1.length : Int) then false else (letS (runN (S.slices_Equal_api_Interface_api_Interface_l1 a0 a1) (.inl ()) 0 a0.length) (fun y3 => Sum.elim (fun _ => true) (fun y5 => y5) y3))
theorem s_slices_Equal_api_Interface_api_Interface (a0 : List TInterface) (a1 : List TInterface) (ha0 : LL L_TInterface a0) (ha1 : LL L_TInterface a1) : M.slices_Equal_api_Interface_api_Interface a0 a1 = some (S.slices_Equal_api_Interface_api_Interface a0 a1) := by
  have hM := maxLen_eq
  unfold M.slices_Equal_api_Interface_api_Interface S.slices_Equal_api_Interface_api_Interface
  refine s_if (fun hb1 => ?_) (fun hb1 => ?_)
  · rfl
  · refine s_bind (s_slices_Equal_api_Interface_api_Interface_l1 a0 a1 ha0 ha1 (by simp at *; omega) 0) (fun y3 hey3 => ?_)
    refine s_elim (fun _ hl => ?_) (fun y5 hly5 => ?_)
    · rfl
    · rfl
noncomputable def S.slices_Equal_api_PrefixRule_api_PrefixRule_l1 (a0 : List TPrefixRule) (a1 : List TPrefixRule) (i1 : Nat) : Option (Unit ⊕ Bool) :=
  bif !((((a0.getD i1 default).fPermit) == ((a1.getD i1 default).fPermit)) && ((((((a0.getD i1 default).fPrefix).fAddr) == (((a1.getD i1 default).fPrefix).fAddr)) && (((((a0.getD i1 default).fPrefix).fLen) == (((a1.getD i1 default).fPrefix).fLen)) && true)) && ((((a0.getD i1 default).fMin) == ((a1.getD i1 default).fMin)) && ((((a0.getD i1 default).fMax) == ((a1.getD i1 default).fMax)) && true)))) then (some (.inr false)) else none
theorem s_slices_Equal_api_PrefixRule_api_PrefixRule_l1 (a0 : List TPrefixRule) (a1 : List TPrefixRule) (ha0 : a0.length ≤ maxLen) (ha1 : a1.length ≤ maxLen) (hlen : a0.length = a1.length) (i0 : Nat) : loopM (M.slices_Equal_api_PrefixRule_api_PrefixRule_l1 a0 a1) (i0 : Int) = some (runN (S.slices_Equal_api_PrefixRule_api_PrefixRule_l1 a0 a1) (.inl ()) i0 (a0.length - i0)) := by
  have hM := maxLen_eq
  have hni1 : a0.length ≤ maxLen := ha0
  refine loop_runN (n := a0.length) (fun i1 hi1 => ?_) (fun m hm => ?_) i0
  · unfold M.slices_Equal_api_PrefixRule_api_PrefixRule_l1 S.slices_Equal_api_PrefixRule_api_PrefixRule_l1
    try simp only [Int.toNat_natCast]
    refine s_then (dt (by omega)) ?_
    refine s_gd (all_c (dt (by omega)) (all_c (dt (by omega)) (all_c (dt (by omega)) (all_c (dt (by omega)) all_n)))) ?_
    refine s_ifN (fun hb2 => ?_) (fun hb2 => ?_)
    · exact s_out
    · exact s_up (by omega)
  · unfold M.slices_Equal_api_PrefixRule_api_PrefixRule_l1
    try simp only [Int.toNat_natCast]
    exact s_else (decide_eq_false (by omega)) rfl
noncomputable def S.slices_Equal_api_PrefixRule_api_PrefixRule (a0 : List TPrefixRule) (a1 : List TPrefixRule) : Bool :=
  bif (a0.length : Int) != (a1.length : Int) then false else (letS (runN (S.slices_Equal_api_PrefixRule_api_PrefixRule_l1 a0 a1) (.inl ()) 0 a0.length) (fun y3 => Sum.elim (fun _ => true) (fun y5 => y5) y3))
theorem s_slices_Equal_api_PrefixRule_api_PrefixRule (a0 : List TPrefixRule) (a1 : List TPrefixRule) (ha0 : a0.length ≤ maxLen) (ha1 : a1.length ≤ maxLen) : M.slices_Equal_api_PrefixRule_api_PrefixRule a0 a1 = some (S.slices_Equal_api_PrefixRule_api_PrefixRule a0 a1) := by
  have hM := maxLen_eq
  unfold M.slices_Equal_api_PrefixRule_api_PrefixRule S.slices_Equal_api_PrefixRule_api_PrefixRule
  refine s_if (fun hb1 => ?_) (fun hb1 => ?_)
  · rfl
  · refine s_bind (s_slices_Equal_api_PrefixRule_api_PrefixRule_l1 a0 a1 ha0 ha1 (by simp at *; omega) 0) (fun y3 hey3 => ?_)
    refine s_elim (fun _ hl => ?_) (fun y5 hly5 => ?_)
    · rfl
    · rfl
noncomputable def S.model_Same_1 (a0 : TPrefixList) (a1 : TPrefixList) : Bool :=
  letS (bif (strEq a0.fName a1.fName) then S.slices_Equal_api_PrefixRule_api_PrefixRule a0.fRules a1.fRules else default) (fun r1 => (strEq a0.fName a1.fName) && r1)
theorem s_model_Same_1 (a0 : TPrefixList) (a1 : TPrefixList) (ha0 : L_TPrefixList a0) (ha1 : L_TPrefixList a1) : M.model_Same_1 a0 a1 = some (S.model_Same_1 a0 a1) := by
  have hM := maxLen_eq
  unfold M.model_Same_1 S.model_Same_1
  refine s_bind (s_gc fun hg => (s_slices_Equal_api_PrefixRule_api_PrefixRule a0.fRules a1.fRules (L_TPrefixList.fRules ha0) (L_TPrefixList.fRules ha1))) (fun r1 her1 => ?_)
  rfl
noncomputable def S.slices_EqualFunc_api_PrefixList_api_PrefixList_api_PrefixList_api_PrefixList__model_Same_1_l1 (a0 : List TPrefixList) (a1 : List TPrefixList) (i1 : Nat) : Option (Unit ⊕ Bool) :=
  letS (S.model_Same_1 (a0.getD i1 default) (a1.getD i1 default)) (fun r3 => bif !r3 then (some (.inr false)) else none)
theorem s_slices_EqualFunc_api_PrefixList_api_PrefixList_api_PrefixList_api_PrefixList__model_Same_1_l1 (a0 : List TPrefixList) (a1 : List TPrefixList) (ha0 : LL L_TPrefixList a0) (ha1 : LL L_TPrefixList a1) (hlen : a0.length = a1.length) (i0 : Nat) : loopM (M.slices_EqualFunc_api_PrefixList_api_PrefixList_api_PrefixList_api_PrefixList__model_Same_1_l1 a0 a1) (i0 : Int) = some (runN (S.slices_EqualFunc_api_PrefixList_api_PrefixList_api_PrefixList_api_PrefixList__model_Same_1_l1 a0 a1) (.inl ()) i0 (a0.length - i0)) := by
  have hM := maxLen_eq
  have hni1 : a0.length ≤ maxLen := ha0.1
  refine loop_runN (n := a0.length) (fun i1 hi1 => ?_) (fun m hm => ?_) i0
  · unfold M.slices_EqualFunc_api_PrefixList_api_PrefixList_api_PrefixList_api_PrefixList__model_Same_1_l1 S.slices_EqualFunc_api_PrefixList_api_PrefixList_api_PrefixList_api_PrefixList__model_Same_1_l1
    try simp only [Int.toNat_natCast]
    refine s_then (dt (by omega)) ?_
    refine s_gd (all_c (dt (by omega)) (all_c (dt (by omega)) all_n)) ?_
    refine s_gd (all_c (dt (by omega)) (all_c (dt (by omega)) all_n)) ?_
    refine s_bindN (s_model_Same_1 (a0.getD i1 default) (a1.getD i1 default) (LL.getD ha0 L_TPrefixList.dflt i1) (LL.getD ha1 L_TPrefixList.dflt i1)) (fun r3 her3 => ?_)
    refine s_ifN (fun hb2 => ?_) (fun hb2 => ?_)
    · exact s_out
    · exact s_up (by omega)
  · unfold M.slices_EqualFunc_api_PrefixList_api_PrefixList_api_PrefixList_api_PrefixList__model_Same_1_l1
    try simp only [Int.toNat_natCast]
    exact s_else (decide_eq_false (by omega)) rfl
noncomputable def S.slices_EqualFunc_api_PrefixList_api_PrefixList_api_PrefixList_api_PrefixList__model_Same_1 (a0 : List TPrefixList) (a1 : List TPrefixList) : Bool :=
  bif (a0.length : Int) != (a1.length : Int) then false else (letS (runN (S.slices_EqualFunc_api_PrefixList_api_PrefixList_api_PrefixList_api_PrefixList__model_Same_1_l1 a0 a1) (.inl ()) 0 a0.length) (fun y4 => Sum.elim (fun _ => true) (fun y6 => y6) y4))
theorem s_slices_EqualFunc_api_PrefixList_api_PrefixList_api_PrefixList_api_PrefixList__model_Same_1 (a0 : List TPrefixList) (a1 : List TPrefixList) (ha0 : LL L_TPrefixList a0) (ha1 : LL L_TPrefixList a1) : M.slices_EqualFunc_api_PrefixList_api_PrefixList_api_PrefixList_api_PrefixList__model_Same_1 a0 a1 = some (S.slices_EqualFunc_api_PrefixList_api_PrefixList_api_PrefixList_api_PrefixList__model_Same_1 a0 a1) := by
  have hM := maxLen_eq
  unfold M.slices_EqualFunc_api_PrefixList_api_PrefixList_api_PrefixList_api_PrefixList__model_Same_1 S.slices_EqualFunc_api_PrefixList_api_PrefixList_api_PrefixList_api_PrefixList__model_Same_1
  refine s_if (fun hb1 => ?_) (fun hb1 => ?_)
  · rfl
  · refine s_bind (s_slices_EqualFunc_api_PrefixList_api_PrefixList_api_PrefixList_api_PrefixList__model_Same_1_l1 a0 a1 ha0 ha1 (by simp at *; omega) 0) (fun y4 hey4 => ?_)
    refine s_elim (fun _ hl => ?_) (fun y6 hly6 => ?_)
    · rfl
    · rfl
noncomputable def S.slices_Equal_api_Clause_api_Clause_l1 (a0 : List TClause) (a1 : List TClause) (i1 : Nat) : Option (Unit ⊕ Bool) :=
  bif !((((a0.getD i1 default).fPermit) == ((a1.getD i1 default).fPermit)) && (strEq ((a0.getD i1 default).fList) ((a1.getD i1 default).fList) && ((((a0.getD i1 default).fTag) == ((a1.getD i1 default).fTag)) && ((((a0.getD i1 default).fSetMetric) == ((a1.getD i1 default).fSetMetric)) && ((((a0.getD i1 default).fSetTag) == ((a1.getD i1 default).fSetTag)) && ((((a0.getD i1 default).fSetPref) == ((a1.getD i1 default).fSetPref)) && ((((a0.getD i1 default).fPrepend) == ((a1.getD i1 default).fPrepend)) && true))))))) then (some (.inr false)) else none
theorem s_slices_Equal_api_Clause_api_Clause_l1 (a0 : List TClause) (a1 : List TClause) (ha0 : LL L_TClause a0) (ha1 : LL L_TClause a1) (hlen : a0.length = a1.length) (i0 : Nat) : loopM (M.slices_Equal_api_Clause_api_Clause_l1 a0 a1) (i0 : Int) = some (runN (S.slices_Equal_api_Clause_api_Clause_l1 a0 a1) (.inl ()) i0 (a0.length - i0)) := by
  have hM := maxLen_eq
  have hni1 : a0.length ≤ maxLen := ha0.1
  refine loop_runN (n := a0.length) (fun i1 hi1 => ?_) (fun m hm => ?_) i0
  · unfold M.slices_Equal_api_Clause_api_Clause_l1 S.slices_Equal_api_Clause_api_Clause_l1
    try simp only [Int.toNat_natCast]
    refine s_then (dt (by omega)) ?_
    refine s_gd (all_c (dt (by omega)) (all_c (dt (by omega)) (all_c (dt (by omega)) (all_c (dt (by omega)) all_n)))) ?_
    refine s_ifN (fun hb2 => ?_) (fun hb2 => ?_)
    · exact s_out
    · exact s_up (by omega)
  · unfold M.slices_Equal_api_Clause_api_Clause_l1
    try simp only [Int.toNat_natCast]
    exact s_else (decide_eq_false (by omega)) rfl
noncomputable def S.slices_Equal_api_Clause_api_Clause (a0 : List TClause) (a1 : List TClause) : Bool :=
  bif (a0.length : Int) != (a1.length : Int) then false else (letS (runN (S.slices_Equal_api_Clause_api_Clause_l1 a0 a1) (.inl ()) 0 a0.length) (fun y3 => Sum.elim (fun _ => true) (fun y5 => y5) y3))
theorem s_slices_Equal_api_Clause_api_Clause (a0 : List TClause) (a1 : List TClause) (ha0 : LL L_TClause a0) (ha1 : LL L_TClause a1) : M.slices_Equal_api_Clause_api_Clause a0 a1 = some (S.slices_Equal_api_Clause_api_Clause a0 a1) := by
  have hM := maxLen_eq
  unfold M.slices_Equal_api_Clause_api_Clause S.slices_Equal_api_Clause_api_Clause
  refine s_if (fun hb1 => ?_) (fun hb1 => ?_)
  · rfl
  · refine s_bind (s_slices_Equal_api_Clause_api_Clause_l1 a0 a1 ha0 ha1 (by simp at *; omega) 0) (fun y3 hey3 => ?_)
    refine s_elim (fun _ hl => ?_) (fun y5 hly5 => ?_)
    · rfl
    · rfl
noncomputable def S.model_Same_2 (a0 : TRouteMap) (a1 : TRouteMap) : Bool :=
  letS (bif (strEq a0.fName a1.fName) then S.slices_Equal_api_Clause_api_Clause a0.fClauses a1.fClauses else default) (fun r1 => (strEq a0.fName a1.fName) && r1)
theorem s_model_Same_2 (a0 : TRouteMap) (a1 : TRouteMap) (ha0 : L_TRouteMap a0) (ha1 : L_TRouteMap a1) : M.model_Same_2 a0 a1 = some (S.model_Same_2 a0 a1) := by
  have hM := maxLen_eq
  unfold M.model_Same_2 S.model_Same_2
  refine s_bind (s_gc fun hg => (s_slices_Equal_api_Clause_api_Clause a0.fClauses a1.fClauses (L_TRouteMap.fClauses ha0) (L_TRouteMap.fClauses ha1))) (fun r1 her1 => ?_)
  rfl
noncomputable def S.slices_EqualFunc_api_RouteMap_api_RouteMap_api_RouteMap_api_RouteMap__model_Same_2_l1 (a0 : List TRouteMap) (a1 : List TRouteMap) (i1 : Nat) : Option (Unit ⊕ Bool) :=
  letS (S.model_Same_2 (a0.getD i1 default) (a1.getD i1 default)) (fun r3 => bif !r3 then (some (.inr false)) else none)
theorem s_slices_EqualFunc_api_RouteMap_api_RouteMap_api_RouteMap_api_RouteMap__model_Same_2_l1 (a0 : List TRouteMap) (a1 : List TRouteMap) (ha0 : LL L_TRouteMap a0) (ha1 : LL L_TRouteMap a1) (hlen : a0.length = a1.length) (i0 : Nat) : loopM (M.slices_EqualFunc_api_RouteMap_api_RouteMap_api_RouteMap_api_RouteMap__model_Same_2_l1 a0 a1) (i0 : Int) = some (runN (S.slices_EqualFunc_api_RouteMap_api_RouteMap_api_RouteMap_api_RouteMap__model_Same_2_l1 a0 a1) (.inl ()) i0 (a0.length - i0)) := by
  have hM := maxLen_eq
  have hni1 : a0.length ≤ maxLen := ha0.1
  refine loop_runN (n := a0.length) (fun i1 hi1 => ?_) (fun m hm => ?_) i0
  · unfold M.slices_EqualFunc_api_RouteMap_api_RouteMap_api_RouteMap_api_RouteMap__model_Same_2_l1 S.slices_EqualFunc_api_RouteMap_api_RouteMap_api_RouteMap_api_RouteMap__model_Same_2_l1
    try simp only [Int.toNat_natCast]
    refine s_then (dt (by omega)) ?_
    refine s_gd (all_c (dt (by omega)) (all_c (dt (by omega)) all_n)) ?_
    refine s_gd (all_c (dt (by omega)) (all_c (dt (by omega)) all_n)) ?_
    refine s_bindN (s_model_Same_2 (a0.getD i1 default) (a1.getD i1 default) (LL.getD ha0 L_TRouteMap.dflt i1) (LL.getD ha1 L_TRouteMap.dflt i1)) (fun r3 her3 => ?_)
    refine s_ifN (fun hb2 => ?_) (fun hb2 => ?_)
    · exact s_out
    · exact s_up (by omega)
  · unfold M.slices_EqualFunc_api_RouteMap_api_RouteMap_api_RouteMap_api_RouteMap__model_Same_2_l1
    try simp only [Int.toNat_natCast]
    exact s_else (decide_eq_false (by omega)) rfl
noncomputable def S.slices_EqualFunc_api_RouteMap_api_RouteMap_api_RouteMap_api_RouteMap__model_Same_2 (a0 : List TRouteMap) (a1 : List TRouteMap) : Bool :=
  bif (a0.length : Int) != (a1.length : Int) then false else (letS (runN (S.slices_EqualFunc_api_RouteMap_api_RouteMap_api_RouteMap_api_RouteMap__model_Same_2_l1 a0 a1) (.inl ()) 0 a0.length) (fun y4 => Sum.elim (fun _ => true) (fun y6 => y6) y4))
theorem s_slices_EqualFunc_api_RouteMap_api_RouteMap_api_RouteMap_api_RouteMap__model_Same_2 (a0 : List TRouteMap) (a1 : List TRouteMap) (ha0 : LL L_TRouteMap a0) (ha1 : LL L_TRouteMap a1) : M.slices_EqualFunc_api_RouteMap_api_RouteMap_api_RouteMap_api_RouteMap__model_Same_2 a0 a1 = some (S.slices_EqualFunc_api_RouteMap_api_RouteMap_api_RouteMap_api_RouteMap__model_Same_2 a0 a1) := by
  have hM := maxLen_eq
  unfold M.slices_EqualFunc_api_RouteMap_api_RouteMap_api_RouteMap_api_RouteMap__model_Same_2 S.slices_EqualFunc_api_RouteMap_api_RouteMap_api_RouteMap_api_RouteMap__model_Same_2
  refine s_if (fun hb1 => ?_) (fun hb1 => ?_)
  · rfl
  · refine s_bind (s_slices_EqualFunc_api_RouteMap_api_RouteMap_api_RouteMap_api_RouteMap__model_Same_2_l1 a0 a1 ha0 ha1 (by simp at *; omega) 0) (fun y4 hey4 => ?_)
    refine s_elim (fun _ hl => ?_) (fun y6 hly6 => ?_)
    · rfl
    · rfl
noncomputable def S.slices_Equal_api_Rule_api_Rule_l1 (a0 : List TRule) (a1 : List TRule) (i1 : Nat) : Option (Unit ⊕ Bool) :=
  bif !((((a0.getD i1 default).fPermit) == ((a1.getD i1 default).fPermit)) && ((((a0.getD i1 default).fProto) == ((a1.getD i1 default).fProto)) && ((((((a0.getD i1 default).fSrc).fAddr) == (((a1.getD i1 default).fSrc).fAddr)) && (((((a0.getD i1 default).fSrc).fMask) == (((a1.getD i1 default).fSrc).fMask)) && true)) && ((((((a0.getD i1 default).fDst).fAddr) == (((a1.getD i1 default).fDst).fAddr)) && (((((a0.getD i1 default).fDst).fMask) == (((a1.getD i1 default).fDst).fMask)) && true)) && ((((((a0.getD i1 default).fSrcPorts).fLo) == (((a1.getD i1 default).fSrcPorts).fLo)) && (((((a0.getD i1 default).fSrcPorts).fHi) == (((a1.getD i1 default).fSrcPorts).fHi)) && true)) && ((((((a0.getD i1 default).fDstPorts).fLo) == (((a1.getD i1 default).fDstPorts).fLo)) && (((((a0.getD i1 default).fDstPorts).fHi) == (((a1.getD i1 default).fDstPorts).fHi)) && true)) && true)))))) then (some (.inr false)) else none
theorem s_slices_Equal_api_Rule_api_Rule_l1 (a0 : List TRule) (a1 : List TRule) (ha0 : a0.length ≤ maxLen) (ha1 : a1.length ≤ maxLen) (hlen : a0.length = a1.length) (i0 : Nat) : loopM (M.slices_Equal_api_Rule_api_Rule_l1 a0 a1) (i0 : Int) = some (runN (S.slices_Equal_api_Rule_api_Rule_l1 a0 a1) (.inl ()) i0 (a0.length - i0)) := by
  have hM := maxLen_eq
  have hni1 : a0.length ≤ maxLen := ha0
  refine loop_runN (n := a0.length) (fun i1 hi1 => ?_) (fun m hm => ?_) i0
  · unfold M.slices_Equal_api_Rule_api_Rule_l1 S.slices_Equal_api_Rule_api_Rule_l1
    try simp only [Int.toNat_natCast]
    refine s_then (dt (by omega)) ?_
    refine s_gd (all_c (dt (by omega)) (all_c (dt (by omega)) (all_c (dt (by omega)) (all_c (dt (by omega)) all_n)))) ?_
    refine s_ifN (fun hb2 => ?_) (fun hb2 => ?_)
    · exact s_out
    · exact s_up (by omega)
  · unfold M.slices_Equal_api_Rule_api_Rule_l1
    try simp only [Int.toNat_natCast]
    exact s_else (decide_eq_false (by omega)) rfl
noncomputable def S.slices_Equal_api_Rule_api_Rule (a0 : List TRule) (a1 : List TRule) : Bool :=
  bif (a0.length : Int) != (a1.length : Int) then false else (letS (runN (S.slices_Equal_api_Rule_api_Rule_l1 a0 a1) (.inl ()) 0 a0.length) (fun y3 => Sum.elim (fun _ => true) (fun y5 => y5) y3))
theorem s_slices_Equal_api_Rule_api_Rule (a0 : List TRule) (a1 : List TRule) (ha0 : a0.length ≤ maxLen) (ha1 : a1.length ≤ maxLen) : M.slices_Equal_api_Rule_api_Rule a0 a1 = some (S.slices_Equal_api_Rule_api_Rule a0 a1) := by
  have hM := maxLen_eq
  unfold M.slices_Equal_api_Rule_api_Rule S.slices_Equal_api_Rule_api_Rule
  refine s_if (fun hb1 => ?_) (fun hb1 => ?_)
  · rfl
  · refine s_bind (s_slices_Equal_api_Rule_api_Rule_l1 a0 a1 ha0 ha1 (by simp at *; omega) 0) (fun y3 hey3 => ?_)
    refine s_elim (fun _ hl => ?_) (fun y5 hly5 => ?_)
    · rfl
    · rfl
noncomputable def S.model_Same_3 (a0 : TACL) (a1 : TACL) : Bool :=
  letS (bif (strEq a0.fName a1.fName) then S.slices_Equal_api_Rule_api_Rule a0.fRules a1.fRules else default) (fun r1 => (strEq a0.fName a1.fName) && r1)
theorem s_model_Same_3 (a0 : TACL) (a1 : TACL) (ha0 : L_TACL a0) (ha1 : L_TACL a1) : M.model_Same_3 a0 a1 = some (S.model_Same_3 a0 a1) := by
  have hM := maxLen_eq
  unfold M.model_Same_3 S.model_Same_3
  refine s_bind (s_gc fun hg => (s_slices_Equal_api_Rule_api_Rule a0.fRules a1.fRules (L_TACL.fRules ha0) (L_TACL.fRules ha1))) (fun r1 her1 => ?_)
  rfl
noncomputable def S.slices_EqualFunc_api_ACL_api_ACL_api_ACL_api_ACL__model_Same_3_l1 (a0 : List TACL) (a1 : List TACL) (i1 : Nat) : Option (Unit ⊕ Bool) :=
  letS (S.model_Same_3 (a0.getD i1 default) (a1.getD i1 default)) (fun r3 => bif !r3 then (some (.inr false)) else none)
theorem s_slices_EqualFunc_api_ACL_api_ACL_api_ACL_api_ACL__model_Same_3_l1 (a0 : List TACL) (a1 : List TACL) (ha0 : LL L_TACL a0) (ha1 : LL L_TACL a1) (hlen : a0.length = a1.length) (i0 : Nat) : loopM (M.slices_EqualFunc_api_ACL_api_ACL_api_ACL_api_ACL__model_Same_3_l1 a0 a1) (i0 : Int) = some (runN (S.slices_EqualFunc_api_ACL_api_ACL_api_ACL_api_ACL__model_Same_3_l1 a0 a1) (.inl ()) i0 (a0.length - i0)) := by
  have hM := maxLen_eq
  have hni1 : a0.length ≤ maxLen := ha0.1
  refine loop_runN (n := a0.length) (fun i1 hi1 => ?_) (fun m hm => ?_) i0
  · unfold M.slices_EqualFunc_api_ACL_api_ACL_api_ACL_api_ACL__model_Same_3_l1 S.slices_EqualFunc_api_ACL_api_ACL_api_ACL_api_ACL__model_Same_3_l1
    try simp only [Int.toNat_natCast]
    refine s_then (dt (by omega)) ?_
    refine s_gd (all_c (dt (by omega)) (all_c (dt (by omega)) all_n)) ?_
    refine s_gd (all_c (dt (by omega)) (all_c (dt (by omega)) all_n)) ?_
    refine s_bindN (s_model_Same_3 (a0.getD i1 default) (a1.getD i1 default) (LL.getD ha0 L_TACL.dflt i1) (LL.getD ha1 L_TACL.dflt i1)) (fun r3 her3 => ?_)
    refine s_ifN (fun hb2 => ?_) (fun hb2 => ?_)
    · exact s_out
    · exact s_up (by omega)
  · unfold M.slices_EqualFunc_api_ACL_api_ACL_api_ACL_api_ACL__model_Same_3_l1
    try simp only [Int.toNat_natCast]
    exact s_else (decide_eq_false (by omega)) rfl
noncomputable def S.slices_EqualFunc_api_ACL_api_ACL_api_ACL_api_ACL__model_Same_3 (a0 : List TACL) (a1 : List TACL) : Bool :=
  bif (a0.length : Int) != (a1.length : Int) then false else (letS (runN (S.slices_EqualFunc_api_ACL_api_ACL_api_ACL_api_ACL__model_Same_3_l1 a0 a1) (.inl ()) 0 a0.length) (fun y4 => Sum.elim (fun _ => true) (fun y6 => y6) y4))
theorem s_slices_EqualFunc_api_ACL_api_ACL_api_ACL_api_ACL__model_Same_3 (a0 : List TACL) (a1 : List TACL) (ha0 : LL L_TACL a0) (ha1 : LL L_TACL a1) : M.slices_EqualFunc_api_ACL_api_ACL_api_ACL_api_ACL__model_Same_3 a0 a1 = some (S.slices_EqualFunc_api_ACL_api_ACL_api_ACL_api_ACL__model_Same_3 a0 a1) := by
  have hM := maxLen_eq
  unfold M.slices_EqualFunc_api_ACL_api_ACL_api_ACL_api_ACL__model_Same_3 S.slices_EqualFunc_api_ACL_api_ACL_api_ACL_api_ACL__model_Same_3
  refine s_if (fun hb1 => ?_) (fun hb1 => ?_)
  · rfl
  · refine s_bind (s_slices_EqualFunc_api_ACL_api_ACL_api_ACL_api_ACL__model_Same_3_l1 a0 a1 ha0 ha1 (by simp at *; omega) 0) (fun y4 hey4 => ?_)
    refine s_elim (fun _ hl => ?_) (fun y6 hly6 => ?_)
    · rfl
    · rfl
noncomputable def S.slices_Equal_api_Translation_api_Translation_l1 (a0 : List TTranslation) (a1 : List TTranslation) (i1 : Nat) : Option (Unit ⊕ Bool) :=
  bif !((((a0.getD i1 default).fKind) == ((a1.getD i1 default).fKind)) && ((((a0.getD i1 default).fInside) == ((a1.getD i1 default).fInside)) && ((((a0.getD i1 default).fOutside) == ((a1.getD i1 default).fOutside)) && ((((a0.getD i1 default).fProto) == ((a1.getD i1 default).fProto)) && ((((a0.getD i1 default).fInsidePort) == ((a1.getD i1 default).fInsidePort)) && ((((a0.getD i1 default).fOutsidePort) == ((a1.getD i1 default).fOutsidePort)) && (strEq ((a0.getD i1 default).fList) ((a1.getD i1 default).fList) && ((((a0.getD i1 default).fLo) == ((a1.getD i1 default).fLo)) && ((((a0.getD i1 default).fHi) == ((a1.getD i1 default).fHi)) && true))))))))) then (some (.inr false)) else none
theorem s_slices_Equal_api_Translation_api_Translation_l1 (a0 : List TTranslation) (a1 : List TTranslation) (ha0 : LL L_TTranslation a0) (ha1 : LL L_TTranslation a1) (hlen : a0.length = a1.length) (i0 : Nat) : loopM (M.slices_Equal_api_Translation_api_Translation_l1 a0 a1) (i0 : Int) = some (runN (S.slices_Equal_api_Translation_api_Translation_l1 a0 a1) (.inl ()) i0 (a0.length - i0)) := by
  have hM := maxLen_eq
  have hni1 : a0.length ≤ maxLen := ha0.1
  refine loop_runN (n := a0.length) (fun i1 hi1 => ?_) (fun m hm => ?_) i0
  · unfold M.slices_Equal_api_Translation_api_Translation_l1 S.slices_Equal_api_Translation_api_Translation_l1
    try simp only [Int.toNat_natCast]
    refine s_then (dt (by omega)) ?_
    refine s_gd (all_c (dt (by omega)) (all_c (dt (by omega)) (all_c (dt (by omega)) (all_c (dt (by omega)) all_n)))) ?_
    refine s_ifN (fun hb2 => ?_) (fun hb2 => ?_)
    · exact s_out
    · exact s_up (by omega)
  · unfold M.slices_Equal_api_Translation_api_Translation_l1
    try simp only [Int.toNat_natCast]
    exact s_else (decide_eq_false (by omega)) rfl
noncomputable def S.slices_Equal_api_Translation_api_Translation (a0 : List TTranslation) (a1 : List TTranslation) : Bool :=
  bif (a0.length : Int) != (a1.length : Int) then false else (letS (runN (S.slices_Equal_api_Translation_api_Translation_l1 a0 a1) (.inl ()) 0 a0.length) (fun y3 => Sum.elim (fun _ => true) (fun y5 => y5) y3))
theorem s_slices_Equal_api_Translation_api_Translation (a0 : List TTranslation) (a1 : List TTranslation) (ha0 : LL L_TTranslation a0) (ha1 : LL L_TTranslation a1) : M.slices_Equal_api_Translation_api_Translation a0 a1 = some (S.slices_Equal_api_Translation_api_Translation a0 a1) := by
  have hM := maxLen_eq
  unfold M.slices_Equal_api_Translation_api_Translation S.slices_Equal_api_Translation_api_Translation
  refine s_if (fun hb1 => ?_) (fun hb1 => ?_)
  · rfl
  · refine s_bind (s_slices_Equal_api_Translation_api_Translation_l1 a0 a1 ha0 ha1 (by simp at *; omega) 0) (fun y3 hey3 => ?_)
    refine s_elim (fun _ hl => ?_) (fun y5 hly5 => ?_)
    · rfl
    · rfl
noncomputable def S.slices_Equal_api_StaticRoute_api_StaticRoute_l1 (a0 : List TStaticRoute) (a1 : List TStaticRoute) (i1 : Nat) : Option (Unit ⊕ Bool) :=
  bif !((((((a0.getD i1 default).fPrefix).fAddr) == (((a1.getD i1 default).fPrefix).fAddr)) && (((((a0.getD i1 default).fPrefix).fLen) == (((a1.getD i1 default).fPrefix).fLen)) && true)) && ((((a0.getD i1 default).fNext) == ((a1.getD i1 default).fNext)) && (strEq ((a0.getD i1 default).fIface) ((a1.getD i1 default).fIface) && ((((a0.getD i1 default).fDiscard) == ((a1.getD i1 default).fDiscard)) && ((((a0.getD i1 default).fAdmin) == ((a1.getD i1 default).fAdmin)) && ((((a0.getD i1 default).fTag) == ((a1.getD i1 default).fTag)) && true)))))) then (some (.inr false)) else none
theorem s_slices_Equal_api_StaticRoute_api_StaticRoute_l1 (a0 : List TStaticRoute) (a1 : List TStaticRoute) (ha0 : LL L_TStaticRoute a0) (ha1 : LL L_TStaticRoute a1) (hlen : a0.length = a1.length) (i0 : Nat) : loopM (M.slices_Equal_api_StaticRoute_api_StaticRoute_l1 a0 a1) (i0 : Int) = some (runN (S.slices_Equal_api_StaticRoute_api_StaticRoute_l1 a0 a1) (.inl ()) i0 (a0.length - i0)) := by
  have hM := maxLen_eq
  have hni1 : a0.length ≤ maxLen := ha0.1
  refine loop_runN (n := a0.length) (fun i1 hi1 => ?_) (fun m hm => ?_) i0
  · unfold M.slices_Equal_api_StaticRoute_api_StaticRoute_l1 S.slices_Equal_api_StaticRoute_api_StaticRoute_l1
    try simp only [Int.toNat_natCast]
    refine s_then (dt (by omega)) ?_
    refine s_gd (all_c (dt (by omega)) (all_c (dt (by omega)) (all_c (dt (by omega)) (all_c (dt (by omega)) all_n)))) ?_
    refine s_ifN (fun hb2 => ?_) (fun hb2 => ?_)
    · exact s_out
    · exact s_up (by omega)
  · unfold M.slices_Equal_api_StaticRoute_api_StaticRoute_l1
    try simp only [Int.toNat_natCast]
    exact s_else (decide_eq_false (by omega)) rfl
noncomputable def S.slices_Equal_api_StaticRoute_api_StaticRoute (a0 : List TStaticRoute) (a1 : List TStaticRoute) : Bool :=
  bif (a0.length : Int) != (a1.length : Int) then false else (letS (runN (S.slices_Equal_api_StaticRoute_api_StaticRoute_l1 a0 a1) (.inl ()) 0 a0.length) (fun y3 => Sum.elim (fun _ => true) (fun y5 => y5) y3))
theorem s_slices_Equal_api_StaticRoute_api_StaticRoute (a0 : List TStaticRoute) (a1 : List TStaticRoute) (ha0 : LL L_TStaticRoute a0) (ha1 : LL L_TStaticRoute a1) : M.slices_Equal_api_StaticRoute_api_StaticRoute a0 a1 = some (S.slices_Equal_api_StaticRoute_api_StaticRoute a0 a1) := by
  have hM := maxLen_eq
  unfold M.slices_Equal_api_StaticRoute_api_StaticRoute S.slices_Equal_api_StaticRoute_api_StaticRoute
  refine s_if (fun hb1 => ?_) (fun hb1 => ?_)
  · rfl
  · refine s_bind (s_slices_Equal_api_StaticRoute_api_StaticRoute_l1 a0 a1 ha0 ha1 (by simp at *; omega) 0) (fun y3 hey3 => ?_)
    refine s_elim (fun _ hl => ?_) (fun y5 hly5 => ?_)
    · rfl
    · rfl
noncomputable def S.slices_Equal_api_AreaRange_api_AreaRange_l1 (a0 : List TAreaRange) (a1 : List TAreaRange) (i1 : Nat) : Option (Unit ⊕ Bool) :=
  bif !((((a0.getD i1 default).fArea) == ((a1.getD i1 default).fArea)) && ((((((a0.getD i1 default).fPrefix).fAddr) == (((a1.getD i1 default).fPrefix).fAddr)) && (((((a0.getD i1 default).fPrefix).fLen) == (((a1.getD i1 default).fPrefix).fLen)) && true)) && true)) then (some (.inr false)) else none
theorem s_slices_Equal_api_AreaRange_api_AreaRange_l1 (a0 : List TAreaRange) (a1 : List TAreaRange) (ha0 : a0.length ≤ maxLen) (ha1 : a1.length ≤ maxLen) (hlen : a0.length = a1.length) (i0 : Nat) : loopM (M.slices_Equal_api_AreaRange_api_AreaRange_l1 a0 a1) (i0 : Int) = some (runN (S.slices_Equal_api_AreaRange_api_AreaRange_l1 a0 a1) (.inl ()) i0 (a0.length - i0)) := by
  have hM := maxLen_eq
  have hni1 : a0.length ≤ maxLen := ha0
  refine loop_runN (n := a0.length) (fun i1 hi1 => ?_) (fun m hm => ?_) i0
  · unfold M.slices_Equal_api_AreaRange_api_AreaRange_l1 S.slices_Equal_api_AreaRange_api_AreaRange_l1
    try simp only [Int.toNat_natCast]
    refine s_then (dt (by omega)) ?_
    refine s_gd (all_c (dt (by omega)) (all_c (dt (by omega)) (all_c (dt (by omega)) (all_c (dt (by omega)) all_n)))) ?_
    refine s_ifN (fun hb2 => ?_) (fun hb2 => ?_)
    · exact s_out
    · exact s_up (by omega)
  · unfold M.slices_Equal_api_AreaRange_api_AreaRange_l1
    try simp only [Int.toNat_natCast]
    exact s_else (decide_eq_false (by omega)) rfl
noncomputable def S.slices_Equal_api_AreaRange_api_AreaRange (a0 : List TAreaRange) (a1 : List TAreaRange) : Bool :=
  bif (a0.length : Int) != (a1.length : Int) then false else (letS (runN (S.slices_Equal_api_AreaRange_api_AreaRange_l1 a0 a1) (.inl ()) 0 a0.length) (fun y3 => Sum.elim (fun _ => true) (fun y5 => y5) y3))
theorem s_slices_Equal_api_AreaRange_api_AreaRange (a0 : List TAreaRange) (a1 : List TAreaRange) (ha0 : a0.length ≤ maxLen) (ha1 : a1.length ≤ maxLen) : M.slices_Equal_api_AreaRange_api_AreaRange a0 a1 = some (S.slices_Equal_api_AreaRange_api_AreaRange a0 a1) := by
  have hM := maxLen_eq
  unfold M.slices_Equal_api_AreaRange_api_AreaRange S.slices_Equal_api_AreaRange_api_AreaRange
  refine s_if (fun hb1 => ?_) (fun hb1 => ?_)
  · rfl
  · refine s_bind (s_slices_Equal_api_AreaRange_api_AreaRange_l1 a0 a1 ha0 ha1 (by simp at *; omega) 0) (fun y3 hey3 => ?_)
    refine s_elim (fun _ hl => ?_) (fun y5 hly5 => ?_)
    · rfl
    · rfl
noncomputable def S.slices_Equal_api_Redist_api_Redist_l1 (a0 : List TRedist) (a1 : List TRedist) (i1 : Nat) : Option (Unit ⊕ Bool) :=
  bif !((((a0.getD i1 default).fFrom) == ((a1.getD i1 default).fFrom)) && ((((a0.getD i1 default).fMetric) == ((a1.getD i1 default).fMetric)) && ((((a0.getD i1 default).fTag) == ((a1.getD i1 default).fTag)) && (strEq ((a0.getD i1 default).fMap) ((a1.getD i1 default).fMap) && ((((a0.getD i1 default).fType) == ((a1.getD i1 default).fType)) && true))))) then (some (.inr false)) else none
theorem s_slices_Equal_api_Redist_api_Redist_l1 (a0 : List TRedist) (a1 : List TRedist) (ha0 : LL L_TRedist a0) (ha1 : LL L_TRedist a1) (hlen : a0.length = a1.length) (i0 : Nat) : loopM (M.slices_Equal_api_Redist_api_Redist_l1 a0 a1) (i0 : Int) = some (runN (S.slices_Equal_api_Redist_api_Redist_l1 a0 a1) (.inl ()) i0 (a0.length - i0)) := by
  have hM := maxLen_eq
  have hni1 : a0.length ≤ maxLen := ha0.1
  refine loop_runN (n := a0.length) (fun i1 hi1 => ?_) (fun m hm => ?_) i0
  · unfold M.slices_Equal_api_Redist_api_Redist_l1 S.slices_Equal_api_Redist_api_Redist_l1
    try simp only [Int.toNat_natCast]
    refine s_then (dt (by omega)) ?_
    refine s_gd (all_c (dt (by omega)) (all_c (dt (by omega)) (all_c (dt (by omega)) (all_c (dt (by omega)) all_n)))) ?_
    refine s_ifN (fun hb2 => ?_) (fun hb2 => ?_)
    · exact s_out
    · exact s_up (by omega)
  · unfold M.slices_Equal_api_Redist_api_Redist_l1
    try simp only [Int.toNat_natCast]
    exact s_else (decide_eq_false (by omega)) rfl
noncomputable def S.slices_Equal_api_Redist_api_Redist (a0 : List TRedist) (a1 : List TRedist) : Bool :=
  bif (a0.length : Int) != (a1.length : Int) then false else (letS (runN (S.slices_Equal_api_Redist_api_Redist_l1 a0 a1) (.inl ()) 0 a0.length) (fun y3 => Sum.elim (fun _ => true) (fun y5 => y5) y3))
theorem s_slices_Equal_api_Redist_api_Redist (a0 : List TRedist) (a1 : List TRedist) (ha0 : LL L_TRedist a0) (ha1 : LL L_TRedist a1) : M.slices_Equal_api_Redist_api_Redist a0 a1 = some (S.slices_Equal_api_Redist_api_Redist a0 a1) := by
  have hM := maxLen_eq
  unfold M.slices_Equal_api_Redist_api_Redist S.slices_Equal_api_Redist_api_Redist
  refine s_if (fun hb1 => ?_) (fun hb1 => ?_)
  · rfl
  · refine s_bind (s_slices_Equal_api_Redist_api_Redist_l1 a0 a1 ha0 ha1 (by simp at *; omega) 0) (fun y3 hey3 => ?_)
    refine s_elim (fun _ hl => ?_) (fun y5 hly5 => ?_)
    · rfl
    · rfl
noncomputable def S.model_sameLinkState (a0 : TLinkState) (a1 : TLinkState) : Bool :=
  letS (bif ((a0.fOn == a1.fOn) && (a0.fAdmin == a1.fAdmin)) then S.slices_Equal_api_AreaRange_api_AreaRange a0.fRanges a1.fRanges else default) (fun r1 => letS (bif (((a0.fOn == a1.fOn) && (a0.fAdmin == a1.fAdmin)) && r1) then S.slices_Equal_api_Redist_api_Redist a0.fRedist a1.fRedist else default) (fun r2 => (((a0.fOn == a1.fOn) && (a0.fAdmin == a1.fAdmin)) && r1) && r2))
theorem s_model_sameLinkState (a0 : TLinkState) (a1 : TLinkState) (ha0 : L_TLinkState a0) (ha1 : L_TLinkState a1) : M.model_sameLinkState a0 a1 = some (S.model_sameLinkState a0 a1) := by
  have hM := maxLen_eq
  unfold M.model_sameLinkState S.model_sameLinkState
  refine s_bind (s_gc fun hg => (s_slices_Equal_api_AreaRange_api_AreaRange a0.fRanges a1.fRanges (L_TLinkState.fRanges ha0) (L_TLinkState.fRanges ha1))) (fun r1 her1 => ?_)
  refine s_bind (s_gc fun hg => (s_slices_Equal_api_Redist_api_Redist a0.fRedist a1.fRedist (L_TLinkState.fRedist ha0) (L_TLinkState.fRedist ha1))) (fun r2 her2 => ?_)
  rfl
noncomputable def S.model_sameDistanceVector (a0 : TDistanceVector) (a1 : TDistanceVector) : Bool :=
  letS (bif ((((a0.fOn == a1.fOn) && (a0.fAdmin == a1.fAdmin)) && (strEq a0.fIn a1.fIn)) && (strEq a0.fOut a1.fOut)) then S.slices_Equal_api_Redist_api_Redist a0.fRedist a1.fRedist else default) (fun r1 => ((((a0.fOn == a1.fOn) && (a0.fAdmin == a1.fAdmin)) && (strEq a0.fIn a1.fIn)) && (strEq a0.fOut a1.fOut)) && r1)
theorem s_model_sameDistanceVector (a0 : TDistanceVector) (a1 : TDistanceVector) (ha0 : L_TDistanceVector a0) (ha1 : L_TDistanceVector a1) : M.model_sameDistanceVector a0 a1 = some (S.model_sameDistanceVector a0 a1) := by
  have hM := maxLen_eq
  unfold M.model_sameDistanceVector S.model_sameDistanceVector
  refine s_bind (s_gc fun hg => (s_slices_Equal_api_Redist_api_Redist a0.fRedist a1.fRedist (L_TDistanceVector.fRedist ha0) (L_TDistanceVector.fRedist ha1))) (fun r1 her1 => ?_)
  rfl
noncomputable def S.slices_Equal_api_Neighbor_api_Neighbor_l1 (a0 : List TNeighbor) (a1 : List TNeighbor) (i1 : Nat) : Option (Unit ⊕ Bool) :=
  bif !((((a0.getD i1 default).fAddr) == ((a1.getD i1 default).fAddr)) && ((((a0.getD i1 default).fAS) == ((a1.getD i1 default).fAS)) && (strEq ((a0.getD i1 default).fIn) ((a1.getD i1 default).fIn) && (strEq ((a0.getD i1 default).fOut) ((a1.getD i1 default).fOut) && true)))) then (some (.inr false)) else none
theorem s_slices_Equal_api_Neighbor_api_Neighbor_l1 (a0 : List TNeighbor) (a1 : List TNeighbor) (ha0 : LL L_TNeighbor a0) (ha1 : LL L_TNeighbor a1) (hlen : a0.length = a1.length) (i0 : Nat) : loopM (M.slices_Equal_api_Neighbor_api_Neighbor_l1 a0 a1) (i0 : Int) = some (runN (S.slices_Equal_api_Neighbor_api_Neighbor_l1 a0 a1) (.inl ()) i0 (a0.length - i0)) := by
  have hM := maxLen_eq
  have hni1 : a0.length ≤ maxLen := ha0.1
  refine loop_runN (n := a0.length) (fun i1 hi1 => ?_) (fun m hm => ?_) i0
  · unfold M.slices_Equal_api_Neighbor_api_Neighbor_l1 S.slices_Equal_api_Neighbor_api_Neighbor_l1
    try simp only [Int.toNat_natCast]
    refine s_then (dt (by omega)) ?_
    refine s_gd (all_c (dt (by omega)) (all_c (dt (by omega)) (all_c (dt (by omega)) (all_c (dt (by omega)) all_n)))) ?_
    refine s_ifN (fun hb2 => ?_) (fun hb2 => ?_)
    · exact s_out
    · exact s_up (by omega)
  · unfold M.slices_Equal_api_Neighbor_api_Neighbor_l1
    try simp only [Int.toNat_natCast]
    exact s_else (decide_eq_false (by omega)) rfl
noncomputable def S.slices_Equal_api_Neighbor_api_Neighbor (a0 : List TNeighbor) (a1 : List TNeighbor) : Bool :=
  bif (a0.length : Int) != (a1.length : Int) then false else (letS (runN (S.slices_Equal_api_Neighbor_api_Neighbor_l1 a0 a1) (.inl ()) 0 a0.length) (fun y3 => Sum.elim (fun _ => true) (fun y5 => y5) y3))
theorem s_slices_Equal_api_Neighbor_api_Neighbor (a0 : List TNeighbor) (a1 : List TNeighbor) (ha0 : LL L_TNeighbor a0) (ha1 : LL L_TNeighbor a1) : M.slices_Equal_api_Neighbor_api_Neighbor a0 a1 = some (S.slices_Equal_api_Neighbor_api_Neighbor a0 a1) := by
  have hM := maxLen_eq
  unfold M.slices_Equal_api_Neighbor_api_Neighbor S.slices_Equal_api_Neighbor_api_Neighbor
  refine s_if (fun hb1 => ?_) (fun hb1 => ?_)
  · rfl
  · refine s_bind (s_slices_Equal_api_Neighbor_api_Neighbor_l1 a0 a1 ha0 ha1 (by simp at *; omega) 0) (fun y3 hey3 => ?_)
    refine s_elim (fun _ hl => ?_) (fun y5 hly5 => ?_)
    · rfl
    · rfl
noncomputable def S.slices_Equal_api_Prefix_api_Prefix_l1 (a0 : List TPrefix) (a1 : List TPrefix) (i1 : Nat) : Option (Unit ⊕ Bool) :=
  bif !((((a0.getD i1 default).fAddr) == ((a1.getD i1 default).fAddr)) && ((((a0.getD i1 default).fLen) == ((a1.getD i1 default).fLen)) && true)) then (some (.inr false)) else none
theorem s_slices_Equal_api_Prefix_api_Prefix_l1 (a0 : List TPrefix) (a1 : List TPrefix) (ha0 : a0.length ≤ maxLen) (ha1 : a1.length ≤ maxLen) (hlen : a0.length = a1.length) (i0 : Nat) : loopM (M.slices_Equal_api_Prefix_api_Prefix_l1 a0 a1) (i0 : Int) = some (runN (S.slices_Equal_api_Prefix_api_Prefix_l1 a0 a1) (.inl ()) i0 (a0.length - i0)) := by
  have hM := maxLen_eq
  have hni1 : a0.length ≤ maxLen := ha0
  refine loop_runN (n := a0.length) (fun i1 hi1 => ?_) (fun m hm => ?_) i0
  · unfold M.slices_Equal_api_Prefix_api_Prefix_l1 S.slices_Equal_api_Prefix_api_Prefix_l1
    try simp only [Int.toNat_natCast]
    refine s_then (dt (by omega)) ?_
    refine s_gd (all_c (dt (by omega)) (all_c (dt (by omega)) (all_c (dt (by omega)) (all_c (dt (by omega)) all_n)))) ?_
    refine s_ifN (fun hb2 => ?_) (fun hb2 => ?_)
    · exact s_out
    · exact s_up (by omega)
  · unfold M.slices_Equal_api_Prefix_api_Prefix_l1
    try simp only [Int.toNat_natCast]
    exact s_else (decide_eq_false (by omega)) rfl
noncomputable def S.slices_Equal_api_Prefix_api_Prefix (a0 : List TPrefix) (a1 : List TPrefix) : Bool :=
  bif (a0.length : Int) != (a1.length : Int) then false else (letS (runN (S.slices_Equal_api_Prefix_api_Prefix_l1 a0 a1) (.inl ()) 0 a0.length) (fun y3 => Sum.elim (fun _ => true) (fun y5 => y5) y3))
theorem s_slices_Equal_api_Prefix_api_Prefix (a0 : List TPrefix) (a1 : List TPrefix) (ha0 : a0.length ≤ maxLen) (ha1 : a1.length ≤ maxLen) : M.slices_Equal_api_Prefix_api_Prefix a0 a1 = some (S.slices_Equal_api_Prefix_api_Prefix a0 a1) := by
  have hM := maxLen_eq
  unfold M.slices_Equal_api_Prefix_api_Prefix S.slices_Equal_api_Prefix_api_Prefix
  refine s_if (fun hb1 => ?_) (fun hb1 => ?_)
  · rfl
  · refine s_bind (s_slices_Equal_api_Prefix_api_Prefix_l1 a0 a1 ha0 ha1 (by simp at *; omega) 0) (fun y3 hey3 => ?_)
    refine s_elim (fun _ hl => ?_) (fun y5 hly5 => ?_)
    · rfl
    · rfl
noncomputable def S.slices_Equal_api_Aggregate_api_Aggregate_l1 (a0 : List TAggregate) (a1 : List TAggregate) (i1 : Nat) : Option (Unit ⊕ Bool) :=
  bif !((((((a0.getD i1 default).fPrefix).fAddr) == (((a1.getD i1 default).fPrefix).fAddr)) && (((((a0.getD i1 default).fPrefix).fLen) == (((a1.getD i1 default).fPrefix).fLen)) && true)) && ((((a0.getD i1 default).fOnly) == ((a1.getD i1 default).fOnly)) && true)) then (some (.inr false)) else none
theorem s_slices_Equal_api_Aggregate_api_Aggregate_l1 (a0 : List TAggregate) (a1 : List TAggregate) (ha0 : a0.length ≤ maxLen) (ha1 : a1.length ≤ maxLen) (hlen : a0.length = a1.length) (i0 : Nat) : loopM (M.slices_Equal_api_Aggregate_api_Aggregate_l1 a0 a1) (i0 : Int) = some (runN (S.slices_Equal_api_Aggregate_api_Aggregate_l1 a0 a1) (.inl ()) i0 (a0.length - i0)) := by
  have hM := maxLen_eq
  have hni1 : a0.length ≤ maxLen := ha0
  refine loop_runN (n := a0.length) (fun i1 hi1 => ?_) (fun m hm => ?_) i0
  · unfold M.slices_Equal_api_Aggregate_api_Aggregate_l1 S.slices_Equal_api_Aggregate_api_Aggregate_l1
    try simp only [Int.toNat_natCast]
    refine s_then (dt (by omega)) ?_
    refine s_gd (all_c (dt (by omega)) (all_c (dt (by omega)) (all_c (dt (by omega)) (all_c (dt (by omega)) all_n)))) ?_
    refine s_ifN (fun hb2 => ?_) (fun hb2 => ?_)
    · exact s_out
    · exact s_up (by omega)
  · unfold M.slices_Equal_api_Aggregate_api_Aggregate_l1
    try simp only [Int.toNat_natCast]
    exact s_else (decide_eq_false (by omega)) rfl
noncomputable def S.slices_Equal_api_Aggregate_api_Aggregate (a0 : List TAggregate) (a1 : List TAggregate) : Bool :=
  bif (a0.length : Int) != (a1.length : Int) then false else (letS (runN (S.slices_Equal_api_Aggregate_api_Aggregate_l1 a0 a1) (.inl ()) 0 a0.length) (fun y3 => Sum.elim (fun _ => true) (fun y5 => y5) y3))
theorem s_slices_Equal_api_Aggregate_api_Aggregate (a0 : List TAggregate) (a1 : List TAggregate) (ha0 : a0.length ≤ maxLen) (ha1 : a1.length ≤ maxLen) : M.slices_Equal_api_Aggregate_api_Aggregate a0 a1 = some (S.slices_Equal_api_Aggregate_api_Aggregate a0 a1) := by
  have hM := maxLen_eq
  unfold M.slices_Equal_api_Aggregate_api_Aggregate S.slices_Equal_api_Aggregate_api_Aggregate
  refine s_if (fun hb1 => ?_) (fun hb1 => ?_)
  · rfl
  · refine s_bind (s_slices_Equal_api_Aggregate_api_Aggregate_l1 a0 a1 ha0 ha1 (by simp at *; omega) 0) (fun y3 hey3 => ?_)
    refine s_elim (fun _ hl => ?_) (fun y5 hly5 => ?_)
    · rfl
    · rfl
noncomputable def S.slices_Equal_api_Condition_api_Condition_l1 (a0 : List TCondition) (a1 : List TCondition) (i1 : Nat) : Option (Unit ⊕ Bool) :=
  bif !((((((a0.getD i1 default).fPrefix).fAddr) == (((a1.getD i1 default).fPrefix).fAddr)) && (((((a0.getD i1 default).fPrefix).fLen) == (((a1.getD i1 default).fPrefix).fLen)) && true)) && ((((((a0.getD i1 default).fIf).fAddr) == (((a1.getD i1 default).fIf).fAddr)) && (((((a0.getD i1 default).fIf).fLen) == (((a1.getD i1 default).fIf).fLen)) && true)) && ((((a0.getD i1 default).fAbsent) == ((a1.getD i1 default).fAbsent)) && true))) then (some (.inr false)) else none
theorem s_slices_Equal_api_Condition_api_Condition_l1 (a0 : List TCondition) (a1 : List TCondition) (ha0 : a0.length ≤ maxLen) (ha1 : a1.length ≤ maxLen) (hlen : a0.length = a1.length) (i0 : Nat) : loopM (M.slices_Equal_api_Condition_api_Condition_l1 a0 a1) (i0 : Int) = some (runN (S.slices_Equal_api_Condition_api_Condition_l1 a0 a1) (.inl ()) i0 (a0.length - i0)) := by
  have hM := maxLen_eq
  have hni1 : a0.length ≤ maxLen := ha0
  refine loop_runN (n := a0.length) (fun i1 hi1 => ?_) (fun m hm => ?_) i0
  · unfold M.slices_Equal_api_Condition_api_Condition_l1 S.slices_Equal_api_Condition_api_Condition_l1
    try simp only [Int.toNat_natCast]
    refine s_then (dt (by omega)) ?_
    refine s_gd (all_c (dt (by omega)) (all_c (dt (by omega)) (all_c (dt (by omega)) (all_c (dt (by omega)) all_n)))) ?_
    refine s_ifN (fun hb2 => ?_) (fun hb2 => ?_)
    · exact s_out
    · exact s_up (by omega)
  · unfold M.slices_Equal_api_Condition_api_Condition_l1
    try simp only [Int.toNat_natCast]
    exact s_else (decide_eq_false (by omega)) rfl
noncomputable def S.slices_Equal_api_Condition_api_Condition (a0 : List TCondition) (a1 : List TCondition) : Bool :=
  bif (a0.length : Int) != (a1.length : Int) then false else (letS (runN (S.slices_Equal_api_Condition_api_Condition_l1 a0 a1) (.inl ()) 0 a0.length) (fun y3 => Sum.elim (fun _ => true) (fun y5 => y5) y3))
theorem s_slices_Equal_api_Condition_api_Condition (a0 : List TCondition) (a1 : List TCondition) (ha0 : a0.length ≤ maxLen) (ha1 : a1.length ≤ maxLen) : M.slices_Equal_api_Condition_api_Condition a0 a1 = some (S.slices_Equal_api_Condition_api_Condition a0 a1) := by
  have hM := maxLen_eq
  unfold M.slices_Equal_api_Condition_api_Condition S.slices_Equal_api_Condition_api_Condition
  refine s_if (fun hb1 => ?_) (fun hb1 => ?_)
  · rfl
  · refine s_bind (s_slices_Equal_api_Condition_api_Condition_l1 a0 a1 ha0 ha1 (by simp at *; omega) 0) (fun y3 hey3 => ?_)
    refine s_elim (fun _ hl => ?_) (fun y5 hly5 => ?_)
    · rfl
    · rfl
noncomputable def S.model_samePathVector (a0 : TPathVector) (a1 : TPathVector) : Bool :=
  letS (bif (((a0.fOn == a1.fOn) && (a0.fExternal == a1.fExternal)) && (a0.fInternal == a1.fInternal)) then S.slices_Equal_api_Neighbor_api_Neighbor a0.fNeighbors a1.fNeighbors else default) (fun r1 => letS (bif ((((a0.fOn == a1.fOn) && (a0.fExternal == a1.fExternal)) && (a0.fInternal == a1.fInternal)) && r1) then S.slices_Equal_api_Prefix_api_Prefix a0.fNetworks a1.fNetworks else default) (fun r2 => letS (bif (((((a0.fOn == a1.fOn) && (a0.fExternal == a1.fExternal)) && (a0.fInternal == a1.fInternal)) && r1) && r2) then S.slices_Equal_api_Aggregate_api_Aggregate a0.fAggregates a1.fAggregates else default) (fun r3 => letS (bif ((((((a0.fOn == a1.fOn) && (a0.fExternal == a1.fExternal)) && (a0.fInternal == a1.fInternal)) && r1) && r2) && r3) then S.slices_Equal_api_Condition_api_Condition a0.fConditions a1.fConditions else default) (fun r4 => letS (bif (((((((a0.fOn == a1.fOn) && (a0.fExternal == a1.fExternal)) && (a0.fInternal == a1.fInternal)) && r1) && r2) && r3) && r4) then S.slices_Equal_api_Redist_api_Redist a0.fRedist a1.fRedist else default) (fun r5 => (((((((a0.fOn == a1.fOn) && (a0.fExternal == a1.fExternal)) && (a0.fInternal == a1.fInternal)) && r1) && r2) && r3) && r4) && r5)))))
theorem s_model_samePathVector (a0 : TPathVector) (a1 : TPathVector) (ha0 : L_TPathVector a0) (ha1 : L_TPathVector a1) : M.model_samePathVector a0 a1 = some (S.model_samePathVector a0 a1) := by
  have hM := maxLen_eq
  unfold M.model_samePathVector S.model_samePathVector
  refine s_bind (s_gc fun hg => (s_slices_Equal_api_Neighbor_api_Neighbor a0.fNeighbors a1.fNeighbors (L_TPathVector.fNeighbors ha0) (L_TPathVector.fNeighbors ha1))) (fun r1 her1 => ?_)
  refine s_bind (s_gc fun hg => (s_slices_Equal_api_Prefix_api_Prefix a0.fNetworks a1.fNetworks (L_TPathVector.fNetworks ha0) (L_TPathVector.fNetworks ha1))) (fun r2 her2 => ?_)
  refine s_bind (s_gc fun hg => (s_slices_Equal_api_Aggregate_api_Aggregate a0.fAggregates a1.fAggregates (L_TPathVector.fAggregates ha0) (L_TPathVector.fAggregates ha1))) (fun r3 her3 => ?_)
  refine s_bind (s_gc fun hg => (s_slices_Equal_api_Condition_api_Condition a0.fConditions a1.fConditions (L_TPathVector.fConditions ha0) (L_TPathVector.fConditions ha1))) (fun r4 her4 => ?_)
  refine s_bind (s_gc fun hg => (s_slices_Equal_api_Redist_api_Redist a0.fRedist a1.fRedist (L_TPathVector.fRedist ha0) (L_TPathVector.fRedist ha1))) (fun r5 her5 => ?_)
  rfl
noncomputable def S.model_Same (a0 : TRouter) (a1 : TRouter) : Bool :=
  letS (bif ((strEq a0.fName a1.fName) && (a0.fAS == a1.fAS)) then S.slices_Equal_api_Interface_api_Interface a0.fInterfaces a1.fInterfaces else default) (fun r1 => letS (bif (((strEq a0.fName a1.fName) && (a0.fAS == a1.fAS)) && r1) then S.slices_EqualFunc_api_PrefixList_api_PrefixList_api_PrefixList_api_PrefixList__model_Same_1 a0.fLists a1.fLists else default) (fun r2 => letS (bif ((((strEq a0.fName a1.fName) && (a0.fAS == a1.fAS)) && r1) && r2) then S.slices_EqualFunc_api_RouteMap_api_RouteMap_api_RouteMap_api_RouteMap__model_Same_2 a0.fMaps a1.fMaps else default) (fun r3 => letS (bif (((((strEq a0.fName a1.fName) && (a0.fAS == a1.fAS)) && r1) && r2) && r3) then S.slices_EqualFunc_api_ACL_api_ACL_api_ACL_api_ACL__model_Same_3 a0.fACLs a1.fACLs else default) (fun r4 => letS (bif ((((((strEq a0.fName a1.fName) && (a0.fAS == a1.fAS)) && r1) && r2) && r3) && r4) then S.slices_Equal_api_Translation_api_Translation a0.fNAT a1.fNAT else default) (fun r5 => letS (bif (((((((strEq a0.fName a1.fName) && (a0.fAS == a1.fAS)) && r1) && r2) && r3) && r4) && r5) then S.slices_Equal_api_StaticRoute_api_StaticRoute a0.fStatics a1.fStatics else default) (fun r6 => letS (bif ((((((((strEq a0.fName a1.fName) && (a0.fAS == a1.fAS)) && r1) && r2) && r3) && r4) && r5) && r6) then S.model_sameLinkState a0.fLS a1.fLS else default) (fun r7 => letS (bif (((((((((strEq a0.fName a1.fName) && (a0.fAS == a1.fAS)) && r1) && r2) && r3) && r4) && r5) && r6) && r7) then S.model_sameDistanceVector a0.fDV a1.fDV else default) (fun r8 => letS (bif ((((((((((strEq a0.fName a1.fName) && (a0.fAS == a1.fAS)) && r1) && r2) && r3) && r4) && r5) && r6) && r7) && r8) then S.model_samePathVector a0.fPV a1.fPV else default) (fun r9 => ((((((((((strEq a0.fName a1.fName) && (a0.fAS == a1.fAS)) && r1) && r2) && r3) && r4) && r5) && r6) && r7) && r8) && r9)))))))))
theorem s_model_Same (a0 : TRouter) (a1 : TRouter) (ha0 : L_TRouter a0) (ha1 : L_TRouter a1) : M.model_Same a0 a1 = some (S.model_Same a0 a1) := by
  have hM := maxLen_eq
  unfold M.model_Same S.model_Same
  refine s_bind (s_gc fun hg => (s_slices_Equal_api_Interface_api_Interface a0.fInterfaces a1.fInterfaces (L_TRouter.fInterfaces ha0) (L_TRouter.fInterfaces ha1))) (fun r1 her1 => ?_)
  refine s_bind (s_gc fun hg => (s_slices_EqualFunc_api_PrefixList_api_PrefixList_api_PrefixList_api_PrefixList__model_Same_1 a0.fLists a1.fLists (L_TRouter.fLists ha0) (L_TRouter.fLists ha1))) (fun r2 her2 => ?_)
  refine s_bind (s_gc fun hg => (s_slices_EqualFunc_api_RouteMap_api_RouteMap_api_RouteMap_api_RouteMap__model_Same_2 a0.fMaps a1.fMaps (L_TRouter.fMaps ha0) (L_TRouter.fMaps ha1))) (fun r3 her3 => ?_)
  refine s_bind (s_gc fun hg => (s_slices_EqualFunc_api_ACL_api_ACL_api_ACL_api_ACL__model_Same_3 a0.fACLs a1.fACLs (L_TRouter.fACLs ha0) (L_TRouter.fACLs ha1))) (fun r4 her4 => ?_)
  refine s_bind (s_gc fun hg => (s_slices_Equal_api_Translation_api_Translation a0.fNAT a1.fNAT (L_TRouter.fNAT ha0) (L_TRouter.fNAT ha1))) (fun r5 her5 => ?_)
  refine s_bind (s_gc fun hg => (s_slices_Equal_api_StaticRoute_api_StaticRoute a0.fStatics a1.fStatics (L_TRouter.fStatics ha0) (L_TRouter.fStatics ha1))) (fun r6 her6 => ?_)
  refine s_bind (s_gc fun hg => (s_model_sameLinkState a0.fLS a1.fLS (L_TRouter.fLS ha0) (L_TRouter.fLS ha1))) (fun r7 her7 => ?_)
  refine s_bind (s_gc fun hg => (s_model_sameDistanceVector a0.fDV a1.fDV (L_TRouter.fDV ha0) (L_TRouter.fDV ha1))) (fun r8 her8 => ?_)
  refine s_bind (s_gc fun hg => (s_model_samePathVector a0.fPV a1.fPV (L_TRouter.fPV ha0) (L_TRouter.fPV ha1))) (fun r9 her9 => ?_)
  rfl
end Nv
