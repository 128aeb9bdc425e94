/- Total forms of the mirrors. -/
import Derived.Test.YtaienbkgekjdnaaGreatNvD1
import Derived.Test.YtaienbkgekjdnaaGreatNvLibB
import Derived.Test.YtaienbkgekjdnaaGreatNvQ0
set_option maxRecDepth 100000
namespace Nv
open Go
def L_TInterface (x : TInterface) : Prop := (x.fName.size ≤ maxLen) ∧ (x.fIn.size ≤ maxLen) ∧ (x.fOut.size ≤ maxLen)
theorem L_TInterface.fName {x : TInterface} (h : L_TInterface x) : x.fName.size ≤ maxLen := h.1
theorem L_TInterface.fIn {x : TInterface} (h : L_TInterface x) : x.fIn.size ≤ maxLen := h.2.1
theorem L_TInterface.fOut {x : TInterface} (h : L_TInterface x) : x.fOut.size ≤ maxLen := h.2.2
theorem L_TInterface.dflt : L_TInterface default := ⟨(Nat.zero_le _), (Nat.zero_le _), (Nat.zero_le _)⟩
def L_TPrefixList (x : TPrefixList) : Prop := (x.fName.size ≤ maxLen) ∧ (x.fRules.length ≤ maxLen)
theorem L_TPrefixList.fName {x : TPrefixList} (h : L_TPrefixList x) : x.fName.size ≤ maxLen := h.1
theorem L_TPrefixList.fRules {x : TPrefixList} (h : L_TPrefixList x) : x.fRules.length ≤ maxLen := h.2
theorem L_TPrefixList.dflt : L_TPrefixList default := ⟨(Nat.zero_le _), (Nat.zero_le _)⟩
def L_TClause (x : TClause) : Prop := (x.fList.size ≤ maxLen)
theorem L_TClause.fList {x : TClause} (h : L_TClause x) : x.fList.size ≤ maxLen := h
theorem L_TClause.dflt : L_TClause default := (Nat.zero_le _)
def L_TRouteMap (x : TRouteMap) : Prop := (x.fName.size ≤ maxLen) ∧ (LL L_TClause x.fClauses)
theorem L_TRouteMap.fName {x : TRouteMap} (h : L_TRouteMap x) : x.fName.size ≤ maxLen := h.1
theorem L_TRouteMap.fClauses {x : TRouteMap} (h : L_TRouteMap x) : LL L_TClause x.fClauses := h.2
theorem L_TRouteMap.dflt : L_TRouteMap default := ⟨(Nat.zero_le _), ⟨Nat.zero_le _, fun _ h => absurd h List.not_mem_nil⟩⟩
def L_TACL (x : TACL) : Prop := (x.fName.size ≤ maxLen) ∧ (x.fRules.length ≤ maxLen)
theorem L_TACL.fName {x : TACL} (h : L_TACL x) : x.fName.size ≤ maxLen := h.1
theorem L_TACL.fRules {x : TACL} (h : L_TACL x) : x.fRules.length ≤ maxLen := h.2
theorem L_TACL.dflt : L_TACL default := ⟨(Nat.zero_le _), (Nat.zero_le _)⟩
def L_TTranslation (x : TTranslation) : Prop := (x.fList.size ≤ maxLen)
theorem L_TTranslation.fList {x : TTranslation} (h : L_TTranslation x) : x.fList.size ≤ maxLen := h
theorem L_TTranslation.dflt : L_TTranslation default := (Nat.zero_le _)
def L_TStaticRoute (x : TStaticRoute) : Prop := (x.fIface.size ≤ maxLen)
theorem L_TStaticRoute.fIface {x : TStaticRoute} (h : L_TStaticRoute x) : x.fIface.size ≤ maxLen := h
theorem L_TStaticRoute.dflt : L_TStaticRoute default := (Nat.zero_le _)
def L_TRedist (x : TRedist) : Prop := (x.fMap.size ≤ maxLen)
theorem L_TRedist.fMap {x : TRedist} (h : L_TRedist x) : x.fMap.size ≤ maxLen := h
theorem L_TRedist.dflt : L_TRedist default := (Nat.zero_le _)
def L_TLinkState (x : TLinkState) : Prop := (x.fRanges.length ≤ maxLen) ∧ (LL L_TRedist x.fRedist)
theorem L_TLinkState.fRanges {x : TLinkState} (h : L_TLinkState x) : x.fRanges.length ≤ maxLen := h.1
theorem L_TLinkState.fRedist {x : TLinkState} (h : L_TLinkState x) : LL L_TRedist x.fRedist := h.2
theorem L_TLinkState.dflt : L_TLinkState default := ⟨(Nat.zero_le _), ⟨Nat.zero_le _, fun _ h => absurd h List.not_mem_nil⟩⟩
def L_TDistanceVector (x : TDistanceVector) : Prop := (x.fIn.size ≤ maxLen) ∧ (x.fOut.size ≤ maxLen) ∧ (LL L_TRedist x.fRedist)
theorem L_TDistanceVector.fIn {x : TDistanceVector} (h : L_TDistanceVector x) : x.fIn.size ≤ maxLen := h.1
theorem L_TDistanceVector.fOut {x : TDistanceVector} (h : L_TDistanceVector x) : x.fOut.size ≤ maxLen := h.2.1
theorem L_TDistanceVector.fRedist {x : TDistanceVector} (h : L_TDistanceVector x) : LL L_TRedist x.fRedist := h.2.2
theorem L_TDistanceVector.dflt : L_TDistanceVector default := ⟨(Nat.zero_le _), (Nat.zero_le _), ⟨Nat.zero_le _, fun _ h => absurd h List.not_mem_nil⟩⟩
def L_TNeighbor (x : TNeighbor) : Prop := (x.fIn.size ≤ maxLen) ∧ (x.fOut.size ≤ maxLen)
theorem L_TNeighbor.fIn {x : TNeighbor} (h : L_TNeighbor x) : x.fIn.size ≤ maxLen := h.1
theorem L_TNeighbor.fOut {x : TNeighbor} (h : L_TNeighbor x) : x.fOut.size ≤ maxLen := h.2
theorem L_TNeighbor.dflt : L_TNeighbor default := ⟨(Nat.zero_le _), (Nat.zero_le _)⟩
def L_TPathVector (x : TPathVector) : Prop := (LL L_TNeighbor x.fNeighbors) ∧ (x.fNetworks.length ≤ maxLen) ∧ (x.fAggregates.length ≤ maxLen) ∧ (x.fConditions.length ≤ maxLen) ∧ (LL L_TRedist x.fRedist)
theorem L_TPathVector.fNeighbors {x : TPathVector} (h : L_TPathVector x) : LL L_TNeighbor x.fNeighbors := h.1
theorem L_TPathVector.fNetworks {x : TPathVector} (h : L_TPathVector x) : x.fNetworks.length ≤ maxLen := h.2.1
theorem L_TPathVector.fAggregates {x : TPathVector} (h : L_TPathVector x) : x.fAggregates.length ≤ maxLen := h.2.2.1
theorem L_TPathVector.fConditions {x : TPathVector} (h : L_TPathVector x) : x.fConditions.length ≤ maxLen := h.2.2.2.1
theorem L_TPathVector.fRedist {x : TPathVector} (h : L_TPathVector x) : LL L_TRedist x.fRedist := h.2.2.2.2
theorem L_TPathVector.dflt : L_TPathVector default := ⟨⟨Nat.zero_le _, fun _ h => absurd h List.not_mem_nil⟩, (Nat.zero_le _), (Nat.zero_le _), (Nat.zero_le _), ⟨Nat.zero_le _, fun _ h => absurd h List.not_mem_nil⟩⟩
def L_TRouter (x : TRouter) : Prop := (x.fName.size ≤ maxLen) ∧ (LL L_TInterface x.fInterfaces) ∧ (LL L_TPrefixList x.fLists) ∧ (LL L_TRouteMap x.fMaps) ∧ (LL L_TACL x.fACLs) ∧ (LL L_TTranslation x.fNAT) ∧ (LL L_TStaticRoute x.fStatics) ∧ (L_TLinkState x.fLS) ∧ (L_TDistanceVector x.fDV) ∧ (L_TPathVector x.fPV)
theorem L_TRouter.fName {x : TRouter} (h : L_TRouter x) : x.fName.size ≤ maxLen := h.1
theorem L_TRouter.fInterfaces {x : TRouter} (h : L_TRouter x) : LL L_TInterface x.fInterfaces := h.2.1
theorem L_TRouter.fLists {x : TRouter} (h : L_TRouter x) : LL L_TPrefixList x.fLists := h.2.2.1
theorem L_TRouter.fMaps {x : TRouter} (h : L_TRouter x) : LL L_TRouteMap x.fMaps := h.2.2.2.1
theorem L_TRouter.fACLs {x : TRouter} (h : L_TRouter x) : LL L_TACL x.fACLs := h.2.2.2.2.1
theorem L_TRouter.fNAT {x : TRouter} (h : L_TRouter x) : LL L_TTranslation x.fNAT := h.2.2.2.2.2.1
theorem L_TRouter.fStatics {x : TRouter} (h : L_TRouter x) : LL L_TStaticRoute x.fStatics := h.2.2.2.2.2.2.1
theorem L_TRouter.fLS {x : TRouter} (h : L_TRouter x) : L_TLinkState x.fLS := h.2.2.2.2.2.2.2.1
theorem L_TRouter.fDV {x : TRouter} (h : L_TRouter x) : L_TDistanceVector x.fDV := h.2.2.2.2.2.2.2.2.1
theorem L_TRouter.fPV {x : TRouter} (h : L_TRouter x) : L_TPathVector x.fPV := h.2.2.2.2.2.2.2.2.2
theorem L_TRouter.dflt : L_TRouter default := ⟨(Nat.zero_le _), ⟨Nat.zero_le _, fun _ h => absurd h List.not_mem_nil⟩, ⟨Nat.zero_le _, fun _ h => absurd h List.not_mem_nil⟩, ⟨Nat.zero_le _, fun _ h => absurd h List.not_mem_nil⟩, ⟨Nat.zero_le _, fun _ h => absurd h List.not_mem_nil⟩, ⟨Nat.zero_le _, fun _ h => absurd h List.not_mem_nil⟩, ⟨Nat.zero_le _, fun _ h => absurd h List.not_mem_nil⟩, L_TLinkState.dflt, L_TDistanceVector.dflt, L_TPathVector.dflt⟩
def L_TNetwork (x : TNetwork) : Prop := (LL L_TRouter x.fRouters)
theorem L_TNetwork.fRouters {x : TNetwork} (h : L_TNetwork x) : LL L_TRouter x.fRouters := h
theorem L_TNetwork.dflt : L_TNetwork default := ⟨Nat.zero_le _, fun _ h => absurd h List.not_mem_nil⟩
def L_TDomain (x : TDomain) : Prop := (x.fEnds.length ≤ maxLen)
theorem L_TDomain.fEnds {x : TDomain} (h : L_TDomain x) : x.fEnds.length ≤ maxLen := h
theorem L_TDomain.dflt : L_TDomain default := (Nat.zero_le _)
def L_TTopology (x : TTopology) : Prop := (LL L_TDomain x.fDomains) ∧ (x.fLinks.length ≤ maxLen)
theorem L_TTopology.fDomains {x : TTopology} (h : L_TTopology x) : LL L_TDomain x.fDomains := h.1
theorem L_TTopology.fLinks {x : TTopology} (h : L_TTopology x) : x.fLinks.length ≤ maxLen := h.2
theorem L_TTopology.dflt : L_TTopology default := ⟨⟨Nat.zero_le _, fun _ h => absurd h List.not_mem_nil⟩, (Nat.zero_le _)⟩
def L_TView (x : TView) : Prop := (L_TNetwork x.fNet) ∧ (L_TTopology x.fTopo) ∧ (x.fDown.length ≤ maxLen)
theorem L_TView.fNet {x : TView} (h : L_TView x) : L_TNetwork x.fNet := h.1
theorem L_TView.fTopo {x : TView} (h : L_TView x) : L_TTopology x.fTopo := h.2.1
theorem L_TView.fDown {x : TView} (h : L_TView x) : x.fDown.length ≤ maxLen := h.2.2
theorem L_TView.dflt : L_TView default := ⟨L_TNetwork.dflt, L_TTopology.dflt, (Nat.zero_le _)⟩
noncomputable def S.law5_Small_l1 (a0 : TRouter) (i1 : Nat) : Option (Unit ⊕ Bool) :=
  bif decide ((((a0.fLists.getD i1 default).fRules).length : Int) > 20) then (some (.inr false)) else none
theorem s_law5_Small_l1 (a0 : TRouter) (ha0 : L_TRouter a0) (i0 : Nat) : loopM (M.law5_Small_l1 a0) (i0 : Int) = some (runN (S.law5_Small_l1 a0) (.inl ()) i0 (a0.fLists.length - i0)) := by
  have hM := maxLen_eq
  have hni1 : a0.fLists.length ≤ maxLen := (L_TRouter.fLists ha0).1
  refine loop_runN (n := a0.fLists.length) (fun i1 hi1 => ?_) (fun m hm => ?_) i0
  · unfold M.law5_Small_l1 S.law5_Small_l1
    try simp only [Int.toNat_natCast]
    refine s_then (dt (by omega)) ?_
    refine s_gd (all_c (dt (by omega)) (all_c (dt (by omega)) all_n)) ?_
    refine s_ifN (fun hb2 => ?_) (fun hb2 => ?_)
    · exact s_out
    · exact s_up (by omega)
  · unfold M.law5_Small_l1
    try simp only [Int.toNat_natCast]
    exact s_else (decide_eq_false (by omega)) rfl
noncomputable def S.law5_Small_l2 (a0 : TRouter) (i6 : Nat) : Option (Unit ⊕ Bool) :=
  bif decide ((((a0.fMaps.getD i6 default).fClauses).length : Int) > 12) then (some (.inr false)) else none
theorem s_law5_Small_l2 (a0 : TRouter) (ha0 : L_TRouter a0) (i0 : Nat) : loopM (M.law5_Small_l2 a0) (i0 : Int) = some (runN (S.law5_Small_l2 a0) (.inl ()) i0 (a0.fMaps.length - i0)) := by
  have hM := maxLen_eq
  have hni6 : a0.fMaps.length ≤ maxLen := (L_TRouter.fMaps ha0).1
  refine loop_runN (n := a0.fMaps.length) (fun i6 hi6 => ?_) (fun m hm => ?_) i0
  · unfold M.law5_Small_l2 S.law5_Small_l2
    try simp only [Int.toNat_natCast]
    refine s_then (dt (by omega)) ?_
    refine s_gd (all_c (dt (by omega)) (all_c (dt (by omega)) all_n)) ?_
    refine s_ifN (fun hb3 => ?_) (fun hb3 => ?_)
    · exact s_out
    · exact s_up (by omega)
  · unfold M.law5_Small_l2
    try simp only [Int.toNat_natCast]
    exact s_else (decide_eq_false (by omega)) rfl
noncomputable def S.law5_Small_l3 (a0 : TRouter) (i11 : Nat) : Option (Unit ⊕ Bool) :=
  bif decide ((((a0.fACLs.getD i11 default).fRules).length : Int) > 20) then (some (.inr false)) else none
theorem s_law5_Small_l3 (a0 : TRouter) (ha0 : L_TRouter a0) (i0 : Nat) : loopM (M.law5_Small_l3 a0) (i0 : Int) = some (runN (S.law5_Small_l3 a0) (.inl ()) i0 (a0.fACLs.length - i0)) := by
  have hM := maxLen_eq
  have hni11 : a0.fACLs.length ≤ maxLen := (L_TRouter.fACLs ha0).1
  refine loop_runN (n := a0.fACLs.length) (fun i11 hi11 => ?_) (fun m hm => ?_) i0
  · unfold M.law5_Small_l3 S.law5_Small_l3
    try simp only [Int.toNat_natCast]
    refine s_then (dt (by omega)) ?_
    refine s_gd (all_c (dt (by omega)) (all_c (dt (by omega)) all_n)) ?_
    refine s_ifN (fun hb4 => ?_) (fun hb4 => ?_)
    · exact s_out
    · exact s_up (by omega)
  · unfold M.law5_Small_l3
    try simp only [Int.toNat_natCast]
    exact s_else (decide_eq_false (by omega)) rfl
noncomputable def S.law5_Small (a0 : TRouter) : Bool :=
  bif (((((((((((((decide ((a0.fInterfaces.length : Int) > 12)) || (decide ((a0.fLists.length : Int) > 12))) || (decide ((a0.fMaps.length : Int) > 12))) || (decide ((a0.fACLs.length : Int) > 12))) || (decide ((a0.fNAT.length : Int) > 12))) || (decide ((a0.fStatics.length : Int) > 20))) || (decide ((a0.fLS.fRanges.length : Int) > 8))) || (decide ((a0.fLS.fRedist.length : Int) > 8))) || (decide ((a0.fDV.fRedist.length : Int) > 8))) || (decide ((a0.fPV.fRedist.length : Int) > 8))) || (decide ((a0.fPV.fNeighbors.length : Int) > 12))) || (decide ((a0.fPV.fNetworks.length : Int) > 12))) || (decide ((a0.fPV.fAggregates.length : Int) > 12))) || (decide ((a0.fPV.fConditions.length : Int) > 12)) then false else (letS (runN (S.law5_Small_l1 a0) (.inl ()) 0 a0.fLists.length) (fun y3 => Sum.elim (fun _ => letS (runN (S.law5_Small_l2 a0) (.inl ()) 0 a0.fMaps.length) (fun y8 => Sum.elim (fun _ => letS (runN (S.law5_Small_l3 a0) (.inl ()) 0 a0.fACLs.length) (fun y13 => Sum.elim (fun _ => true) (fun y15 => y15) y13)) (fun y10 => y10) y8)) (fun y5 => y5) y3))
theorem s_law5_Small (a0 : TRouter) (ha0 : L_TRouter a0) : M.law5_Small a0 = some (S.law5_Small a0) := by
  have hM := maxLen_eq
  unfold M.law5_Small S.law5_Small
  refine s_if (fun hb1 => ?_) (fun hb1 => ?_)
  · rfl
  · refine s_bind (s_law5_Small_l1 a0 ha0 0) (fun y3 hey3 => ?_)
    refine s_elim (fun _ hl => ?_) (fun y5 hly5 => ?_)
    · refine s_bind (s_law5_Small_l2 a0 ha0 0) (fun y8 hey8 => ?_)
      refine s_elim (fun _ hl => ?_) (fun y10 hly10 => ?_)
      · refine s_bind (s_law5_Small_l3 a0 ha0 0) (fun y13 hey13 => ?_)
        refine s_elim (fun _ hl => ?_) (fun y15 hly15 => ?_)
        · rfl
        · rfl
      · rfl
    · rfl
noncomputable def S.law13_Small_l1 (a0 : TNetwork) (i1 : Nat) : Option (Unit ⊕ Bool) :=
  letS (S.law5_Small (a0.fRouters.getD i1 default)) (fun r3 => bif !r3 then (some (.inr false)) else none)
theorem s_law13_Small_l1 (a0 : TNetwork) (ha0 : L_TNetwork a0) (i0 : Nat) : loopM (M.law13_Small_l1 a0) (i0 : Int) = some (runN (S.law13_Small_l1 a0) (.inl ()) i0 (a0.fRouters.length - i0)) := by
  have hM := maxLen_eq
  have hni1 : a0.fRouters.length ≤ maxLen := (L_TNetwork.fRouters ha0).1
  refine loop_runN (n := a0.fRouters.length) (fun i1 hi1 => ?_) (fun m hm => ?_) i0
  · unfold M.law13_Small_l1 S.law13_Small_l1
    try simp only [Int.toNat_natCast]
    refine s_then (dt (by omega)) ?_
    refine s_bindN (s_law5_Small (a0.fRouters.getD i1 default) (LL.getD (L_TNetwork.fRouters ha0) L_TRouter.dflt i1)) (fun r3 her3 => ?_)
    refine s_gd (all_c (dt (by omega)) (all_c (dt (by omega)) all_n)) ?_
    refine s_ifN (fun hb2 => ?_) (fun hb2 => ?_)
    · exact s_out
    · exact s_up (by omega)
  · unfold M.law13_Small_l1
    try simp only [Int.toNat_natCast]
    exact s_else (decide_eq_false (by omega)) rfl
noncomputable def S.law13_Small (a0 : TNetwork) : Bool :=
  bif decide ((a0.fRouters.length : Int) > 9) then false else (letS (runN (S.law13_Small_l1 a0) (.inl ()) 0 a0.fRouters.length) (fun y4 => Sum.elim (fun _ => true) (fun y6 => y6) y4))
theorem s_law13_Small (a0 : TNetwork) (ha0 : L_TNetwork a0) : M.law13_Small a0 = some (S.law13_Small a0) := by
  have hM := maxLen_eq
  unfold M.law13_Small S.law13_Small
  refine s_if (fun hb1 => ?_) (fun hb1 => ?_)
  · rfl
  · refine s_bind (s_law13_Small_l1 a0 ha0 0) (fun y4 hey4 => ?_)
    refine s_elim (fun _ hl => ?_) (fun y6 hly6 => ?_)
    · rfl
    · rfl
noncomputable def S.scan_letter (a0 : Int) : Bool :=
  ((decide (65 ≤ a0)) && (decide (a0 ≤ 90))) || ((decide (97 ≤ a0)) && (decide (a0 ≤ 122)))
theorem s_scan_letter (a0 : Int)  : M.scan_letter a0 = some (S.scan_letter a0) := by
  have hM := maxLen_eq
  unfold M.scan_letter S.scan_letter
  rfl
noncomputable def S.scan_digit (a0 : Int) : Bool :=
  (decide (48 ≤ a0)) && (decide (a0 ≤ 57))
theorem s_scan_digit (a0 : Int)  : M.scan_digit a0 = some (S.scan_digit a0) := by
  have hM := maxLen_eq
  unfold M.scan_digit S.scan_digit
  rfl
noncomputable def S.scan_Name_l1 (a0 : ByteArray) (i2 : Nat) : Option (Unit ⊕ Bool) :=
  letS (S.scan_letter (byteAt a0 (i2 : Int))) (fun r4 => letS (bif (!r4) then S.scan_digit (byteAt a0 (i2 : Int)) else default) (fun r5 => bif (((((!r4) && (!r5)) && ((byteAt a0 (i2 : Int)) != 45)) && ((byteAt a0 (i2 : Int)) != 95)) && ((byteAt a0 (i2 : Int)) != 47)) && ((byteAt a0 (i2 : Int)) != 46) then (some (.inr false)) else none))
theorem s_scan_Name_l1 (a0 : ByteArray) (ha0 : a0.size ≤ maxLen) (i0 : Nat) : loopM (M.scan_Name_l1 a0) (i0 : Int) = some (runN (S.scan_Name_l1 a0) (.inl ()) i0 (a0.size - i0)) := by
  have hM := maxLen_eq
  have hni2 : a0.size ≤ maxLen := ha0
  refine loop_runN (n := a0.size) (fun i2 hi2 => ?_) (fun m hm => ?_) i0
  · unfold M.scan_Name_l1 S.scan_Name_l1
    try simp only [Int.toNat_natCast]
    refine s_then (dt (by omega)) ?_
    refine s_gd (all_c (dt (by omega)) (all_c (dt (by omega)) all_n)) ?_
    refine s_bindN (s_scan_letter (byteAt a0 (i2 : Int))) (fun r4 her4 => ?_)
    refine s_bindN (s_gc fun hg => (s_scan_digit (byteAt a0 (i2 : Int)))) (fun r5 her5 => ?_)
    refine s_ifN (fun hb2 => ?_) (fun hb2 => ?_)
    · exact s_out
    · exact s_up (by omega)
  · unfold M.scan_Name_l1
    try simp only [Int.toNat_natCast]
    exact s_else (decide_eq_false (by omega)) rfl
noncomputable def S.scan_Name (a0 : ByteArray) : Bool :=
  letS (bif (!((decide ((a0.size : Int) < 1)) || (decide ((a0.size : Int) > 15)))) then S.scan_letter (byteAt a0 0) else default) (fun r1 => bif ((decide ((a0.size : Int) < 1)) || (decide ((a0.size : Int) > 15))) || (!r1) then false else (letS (runN (S.scan_Name_l1 a0) (.inl ()) 1 (a0.size - 1)) (fun y6 => Sum.elim (fun _ => true) (fun y8 => y8) y6)))
theorem s_scan_Name (a0 : ByteArray) (ha0 : a0.size ≤ maxLen) : M.scan_Name a0 = some (S.scan_Name a0) := by
  have hM := maxLen_eq
  unfold M.scan_Name S.scan_Name
  refine s_bind (s_gc fun hg => (s_scan_letter (byteAt a0 0))) (fun r1 her1 => ?_)
  refine s_gd (all_c (s_guard fun hg => (dt (by first | omega | (simp; omega) | (simp at *; omega)))) (all_c (s_guard fun hg => (dt (by first | omega | (simp; omega) | (simp at *; omega)))) all_n)) ?_
  refine s_if (fun hb1 => ?_) (fun hb1 => ?_)
  · rfl
  · refine s_bind (s_scan_Name_l1 a0 ha0 1) (fun y6 hey6 => ?_)
    refine s_elim (fun _ hl => ?_) (fun y8 hly8 => ?_)
    · rfl
    · rfl
noncomputable def S.model_within (a0 : Int) (a1 : Int) (a2 : Int) : Bool :=
  (decide (a1 ≤ a0)) && (decide (a0 ≤ a2))
theorem s_model_within (a0 : Int) (a1 : Int) (a2 : Int)  : M.model_within a0 a1 a2 = some (S.model_within a0 a1 a2) := by
  have hM := maxLen_eq
  unfold M.model_within S.model_within
  rfl
noncomputable def S.model_Interface_1 (a0 : TInterface) (b0 : ByteArray) : Bool :=
  strEq a0.fName b0
theorem s_model_Interface_1 (a0 : TInterface) (b0 : ByteArray) (ha0 : L_TInterface a0) (hb0 : b0.size ≤ maxLen) : M.model_Interface_1 a0 b0 = some (S.model_Interface_1 a0 b0) := by
  have hM := maxLen_eq
  unfold M.model_Interface_1 S.model_Interface_1
  rfl
noncomputable def S.slices_IndexFunc_api_Interface_api_Interface__model_Interface_1_l1 (a0 : List TInterface) (a1c0 : ByteArray) (i1 : Nat) : Option (Unit ⊕ Int) :=
  letS (S.model_Interface_1 (a0.getD i1 default) a1c0) (fun r3 => bif r3 then (some (.inr (i1 : Int))) else none)
theorem s_slices_IndexFunc_api_Interface_api_Interface__model_Interface_1_l1 (a0 : List TInterface) (a1c0 : ByteArray) (ha0 : LL L_TInterface a0) (ha1c0 : a1c0.size ≤ maxLen) (i0 : Nat) : loopM (M.slices_IndexFunc_api_Interface_api_Interface__model_Interface_1_l1 a0 a1c0) (i0 : Int) = some (runN (S.slices_IndexFunc_api_Interface_api_Interface__model_Interface_1_l1 a0 a1c0) (.inl ()) i0 (a0.length - i0)) := by
  have hM := maxLen_eq
  have hni1 : a0.length ≤ maxLen := ha0.1
  refine loop_runN (n := a0.length) (fun i1 hi1 => ?_) (fun m hm => ?_) i0
  · unfold M.slices_IndexFunc_api_Interface_api_Interface__model_Interface_1_l1 S.slices_IndexFunc_api_Interface_api_Interface__model_Interface_1_l1
    try simp only [Int.toNat_natCast]
    refine s_then (dt (by omega)) ?_
    refine s_bindN (s_model_Interface_1 (a0.getD i1 default) a1c0 (LL.getD ha0 L_TInterface.dflt i1) ha1c0) (fun r3 her3 => ?_)
    refine s_gd (all_c (dt (by omega)) (all_c (dt (by omega)) all_n)) ?_
    refine s_ifN (fun hb1 => ?_) (fun hb1 => ?_)
    · exact s_out
    · exact s_up (by omega)
  · unfold M.slices_IndexFunc_api_Interface_api_Interface__model_Interface_1_l1
    try simp only [Int.toNat_natCast]
    exact s_else (decide_eq_false (by omega)) rfl
noncomputable def S.slices_IndexFunc_api_Interface_api_Interface__model_Interface_1 (a0 : List TInterface) (a1c0 : ByteArray) : Int :=
  letS (runN (S.slices_IndexFunc_api_Interface_api_Interface__model_Interface_1_l1 a0 a1c0) (.inl ()) 0 a0.length) (fun y4 => Sum.elim (fun _ => -1) (fun y6 => y6) y4)
theorem s_slices_IndexFunc_api_Interface_api_Interface__model_Interface_1 (a0 : List TInterface) (a1c0 : ByteArray) (ha0 : LL L_TInterface a0) (ha1c0 : a1c0.size ≤ maxLen) : M.slices_IndexFunc_api_Interface_api_Interface__model_Interface_1 a0 a1c0 = some (S.slices_IndexFunc_api_Interface_api_Interface__model_Interface_1 a0 a1c0) := by
  have hM := maxLen_eq
  unfold M.slices_IndexFunc_api_Interface_api_Interface__model_Interface_1 S.slices_IndexFunc_api_Interface_api_Interface__model_Interface_1
  refine s_bind (s_slices_IndexFunc_api_Interface_api_Interface__model_Interface_1_l1 a0 a1c0 ha0 ha1c0 0) (fun y4 hey4 => ?_)
  refine s_elim (fun _ hl => ?_) (fun y6 hly6 => ?_)
  · rfl
  · rfl
noncomputable def S.model_Interface (a0 : TRouter) (a1 : ByteArray) : Int :=
  letS (S.slices_IndexFunc_api_Interface_api_Interface__model_Interface_1 a0.fInterfaces a1) (fun r1 => r1)
theorem s_model_Interface (a0 : TRouter) (a1 : ByteArray) (ha0 : L_TRouter a0) (ha1 : a1.size ≤ maxLen) : M.model_Interface a0 a1 = some (S.model_Interface a0 a1) := by
  have hM := maxLen_eq
  unfold M.model_Interface S.model_Interface
  refine s_bind (s_slices_IndexFunc_api_Interface_api_Interface__model_Interface_1 a0.fInterfaces a1 (L_TRouter.fInterfaces ha0) ha1) (fun r1 her1 => ?_)
  rfl
theorem rng_model_Interface (a0 : TRouter) (a1 : ByteArray) : S.model_Interface a0 a1 < (a0.fInterfaces.length : Int) := by
  unfold S.model_Interface S.slices_IndexFunc_api_Interface_api_Interface__model_Interface_1
  simp only [letS]
  exact idx_lt (fun i => by unfold S.slices_IndexFunc_api_Interface_api_Interface__model_Interface_1_l1; simp only [letS]; cases S.model_Interface_1 (a0.fInterfaces.getD i default) a1 <;> simp) _
noncomputable def S.model_rightInterface (a0 : TInterface) : Bool :=
  letS (S.model_within a0.fLen 0 32) (fun r1 => letS (bif (!(!r1)) then S.model_within a0.fVLAN 0 4094 else default) (fun r2 => letS (bif (!((!r1) || (!r2))) then S.model_within a0.fSide 0 2 else default) (fun r3 => bif ((!r1) || (!r2)) || (!r3) then false else (bif (a0.fLen == 0) && (((((((a0.fAddr != 0) || (a0.fVLAN != 0)) || (a0.fSide != 0)) || a0.fLS) || a0.fDV) || (!strEq a0.fIn (⟨#[]⟩ : ByteArray))) || (!strEq a0.fOut (⟨#[]⟩ : ByteArray))) then false else (bif (a0.fLen != 0) && (a0.fAddr == 0) then false else (bif a0.fLS then (letS (S.model_within a0.fArea 0 255) (fun r4 => letS (bif r4 then S.model_within a0.fCost 1 65535 else default) (fun r5 => r4 && r5))) else ((a0.fArea == 0) && (a0.fCost == 0))))))))
theorem s_model_rightInterface (a0 : TInterface) (ha0 : L_TInterface a0) : M.model_rightInterface a0 = some (S.model_rightInterface a0) := by
  have hM := maxLen_eq
  unfold M.model_rightInterface S.model_rightInterface
  refine s_bind (s_model_within a0.fLen 0 32) (fun r1 her1 => ?_)
  refine s_bind (s_gc fun hg => (s_model_within a0.fVLAN 0 4094)) (fun r2 her2 => ?_)
  refine s_bind (s_gc fun hg => (s_model_within a0.fSide 0 2)) (fun r3 her3 => ?_)
  refine s_if (fun hb1 => ?_) (fun hb1 => ?_)
  · rfl
  · refine s_if (fun hb2 => ?_) (fun hb2 => ?_)
    · rfl
    · refine s_if (fun hb3 => ?_) (fun hb3 => ?_)
      · rfl
      · refine s_if (fun hb4 => ?_) (fun hb4 => ?_)
        · refine s_bind (s_model_within a0.fArea 0 255) (fun r4 her4 => ?_)
          refine s_bind (s_gc fun hg => (s_model_within a0.fCost 1 65535)) (fun r5 her5 => ?_)
          rfl
        · rfl
noncomputable def S.addr_Network (a0 : Int) (a1 : Int) : TPrefix :=
  letS (S.addr_Mask a1) (fun r1 => letS (S.addr_clamp a1) (fun r2 => (⟨bitD .and .u32 a0 r1, r2⟩ : TPrefix)))
theorem s_addr_Network (a0 : Int) (a1 : Int)  : M.addr_Network a0 a1 = some (S.addr_Network a0 a1) := by
  have hM := maxLen_eq
  unfold M.addr_Network S.addr_Network
  refine s_bind (s_addr_Mask a1) (fun r1 her1 => ?_)
  refine s_bind (s_addr_clamp a1) (fun r2 her2 => ?_)
  rfl
noncomputable def S.addr_Contains (a0 : TPrefix) (a1 : Int) : Bool :=
  letS (S.addr_Mask a0.fLen) (fun r1 => (bitD .and .u32 a1 r1) == a0.fAddr)
theorem s_addr_Contains (a0 : TPrefix) (a1 : Int)  : M.addr_Contains a0 a1 = some (S.addr_Contains a0 a1) := by
  have hM := maxLen_eq
  unfold M.addr_Contains S.addr_Contains
  refine s_bind (s_addr_Mask a0.fLen) (fun r1 her1 => ?_)
  rfl
noncomputable def S.addr_Covers (a0 : TPrefix) (a1 : TPrefix) : Bool :=
  letS (bif (decide (a0.fLen ≤ a1.fLen)) then S.addr_Contains a0 a1.fAddr else default) (fun r1 => (decide (a0.fLen ≤ a1.fLen)) && r1)
theorem s_addr_Covers (a0 : TPrefix) (a1 : TPrefix)  : M.addr_Covers a0 a1 = some (S.addr_Covers a0 a1) := by
  have hM := maxLen_eq
  unfold M.addr_Covers S.addr_Covers
  refine s_bind (s_gc fun hg => (s_addr_Contains a0 a1.fAddr)) (fun r1 her1 => ?_)
  rfl
noncomputable def S.addr_Overlaps (a0 : TPrefix) (a1 : TPrefix) : Bool :=
  letS (S.addr_Covers a0 a1) (fun r1 => letS (bif (!r1) then S.addr_Covers a1 a0 else default) (fun r2 => r1 || r2))
theorem s_addr_Overlaps (a0 : TPrefix) (a1 : TPrefix)  : M.addr_Overlaps a0 a1 = some (S.addr_Overlaps a0 a1) := by
  have hM := maxLen_eq
  unfold M.addr_Overlaps S.addr_Overlaps
  refine s_bind (s_addr_Covers a0 a1) (fun r1 her1 => ?_)
  refine s_bind (s_gc fun hg => (s_addr_Covers a1 a0)) (fun r2 her2 => ?_)
  rfl
noncomputable def S.model_checkInterfaces_l2 (a0 : TRouter) (i1 : Nat) (i6 : Nat) : Option (Unit ⊕ Int) :=
  letS (bif ((((a0.fInterfaces.getD i1 default).fLen) != 0) && (((((a0.fInterfaces.drop 0).take (i1 - 0)).getD i6 default).fLen) != 0)) then S.addr_Network ((a0.fInterfaces.getD i1 default).fAddr) ((a0.fInterfaces.getD i1 default).fLen) else default) (fun r8 => letS (bif ((((a0.fInterfaces.getD i1 default).fLen) != 0) && (((((a0.fInterfaces.drop 0).take (i1 - 0)).getD i6 default).fLen) != 0)) then S.addr_Network ((((a0.fInterfaces.drop 0).take (i1 - 0)).getD i6 default).fAddr) ((((a0.fInterfaces.drop 0).take (i1 - 0)).getD i6 default).fLen) else default) (fun r9 => letS (bif ((((a0.fInterfaces.getD i1 default).fLen) != 0) && (((((a0.fInterfaces.drop 0).take (i1 - 0)).getD i6 default).fLen) != 0)) then S.addr_Overlaps r8 r9 else default) (fun r10 => bif ((((a0.fInterfaces.getD i1 default).fLen) != 0) && (((((a0.fInterfaces.drop 0).take (i1 - 0)).getD i6 default).fLen) != 0)) && r10 then (some (.inr 6)) else none)))
theorem s_model_checkInterfaces_l2 (a0 : TRouter) (i1 : Nat) (ha0 : L_TRouter a0) (hi1 : i1 < a0.fInterfaces.length) (i0 : Nat) : loopM (M.model_checkInterfaces_l2 a0 (i1 : Int)) (i0 : Int) = some (runN (S.model_checkInterfaces_l2 a0 i1) (.inl ()) i0 (i1 - i0)) := by
  have hM := maxLen_eq
  have hni1 : a0.fInterfaces.length ≤ maxLen := (L_TRouter.fInterfaces ha0).1
  have hni6 : i1 ≤ maxLen := (by omega)
  refine loop_runN (n := i1) (fun i6 hi6 => ?_) (fun m hm => ?_) i0
  · unfold M.model_checkInterfaces_l2 S.model_checkInterfaces_l2
    try simp only [Int.toNat_natCast]
    refine s_then (dt (by omega)) ?_
    refine s_gd (all_c (dt (by omega)) (all_c (dt (by simp; omega)) all_n)) ?_
    refine s_bindN (s_gc fun hg => (s_addr_Network ((a0.fInterfaces.getD i1 default).fAddr) ((a0.fInterfaces.getD i1 default).fLen))) (fun r8 her8 => ?_)
    refine s_bindN (s_gc fun hg => (s_addr_Network ((((a0.fInterfaces.drop 0).take (i1 - 0)).getD i6 default).fAddr) ((((a0.fInterfaces.drop 0).take (i1 - 0)).getD i6 default).fLen))) (fun r9 her9 => ?_)
    refine s_bindN (s_gc fun hg => (s_addr_Overlaps r8 r9)) (fun r10 her10 => ?_)
    refine s_ifN (fun hb5 => ?_) (fun hb5 => ?_)
    · exact s_out
    · exact s_up (by omega)
  · unfold M.model_checkInterfaces_l2
    try simp only [Int.toNat_natCast]
    exact s_else (decide_eq_false (by omega)) rfl
noncomputable def S.model_checkInterfaces_l1 (a0 : TRouter) (i1 : Nat) : Option (Unit ⊕ Int) :=
  letS (S.scan_Name ((a0.fInterfaces.getD i1 default).fName)) (fun r3 => bif !r3 then (some (.inr 3)) else (letS (S.model_Interface a0 ((a0.fInterfaces.getD i1 default).fName)) (fun r4 => bif decide (r4 < (i1 : Int)) then (some (.inr 4)) else (letS (S.model_rightInterface (a0.fInterfaces.getD i1 default)) (fun r5 => bif !r5 then (some (.inr 1)) else (letS (runN (S.model_checkInterfaces_l2 a0 i1) (.inl ()) 0 i1) (fun y11 => Sum.elim (fun _ => none) (fun y13 => some (.inr y13)) y11)))))))
theorem s_model_checkInterfaces_l1 (a0 : TRouter) (ha0 : L_TRouter a0) (i0 : Nat) : loopM (M.model_checkInterfaces_l1 a0) (i0 : Int) = some (runN (S.model_checkInterfaces_l1 a0) (.inl ()) i0 (a0.fInterfaces.length - i0)) := by
  have hM := maxLen_eq
  have hni1 : a0.fInterfaces.length ≤ maxLen := (L_TRouter.fInterfaces ha0).1
  refine loop_runN (n := a0.fInterfaces.length) (fun i1 hi1 => ?_) (fun m hm => ?_) i0
  · unfold M.model_checkInterfaces_l1 S.model_checkInterfaces_l1
    try simp only [Int.toNat_natCast]
    refine s_then (dt (by omega)) ?_
    refine s_gd (all_c (dt (by omega)) (all_c (dt (by omega)) all_n)) ?_
    refine s_bindN (s_scan_Name ((a0.fInterfaces.getD i1 default).fName) (L_TInterface.fName (LL.getD (L_TRouter.fInterfaces ha0) L_TInterface.dflt i1))) (fun r3 her3 => ?_)
    refine s_ifN (fun hb2 => ?_) (fun hb2 => ?_)
    · exact s_out
    · refine s_bindN (s_model_Interface a0 ((a0.fInterfaces.getD i1 default).fName) ha0 (L_TInterface.fName (LL.getD (L_TRouter.fInterfaces ha0) L_TInterface.dflt i1))) (fun r4 her4 => ?_)
      have hrr4 := rng_model_Interface a0 ((a0.fInterfaces.getD i1 default).fName)
      refine s_ifN (fun hb3 => ?_) (fun hb3 => ?_)
      · exact s_out
      · refine s_bindN (s_model_rightInterface (a0.fInterfaces.getD i1 default) (LL.getD (L_TRouter.fInterfaces ha0) L_TInterface.dflt i1)) (fun r5 her5 => ?_)
        refine s_ifN (fun hb4 => ?_) (fun hb4 => ?_)
        · exact s_out
        · refine s_gd (all_c (dt (by omega)) (all_c (dt (by omega)) all_n)) ?_
          refine s_bindN (s_model_checkInterfaces_l2 a0 i1 ha0 hi1 0) (fun y11 hey11 => ?_)
          refine s_elimN (fun _ hl => ?_) (fun y13 hly13 => ?_)
          · exact s_up (by omega)
          · exact s_out
  · unfold M.model_checkInterfaces_l1
    try simp only [Int.toNat_natCast]
    exact s_else (decide_eq_false (by omega)) rfl
noncomputable def S.model_checkInterfaces (a0 : TRouter) : Int :=
  bif decide ((a0.fInterfaces.length : Int) > 8) then 7 else (letS (runN (S.model_checkInterfaces_l1 a0) (.inl ()) 0 a0.fInterfaces.length) (fun y14 => Sum.elim (fun _ => 0) (fun y16 => y16) y14))
theorem s_model_checkInterfaces (a0 : TRouter) (ha0 : L_TRouter a0) : M.model_checkInterfaces a0 = some (S.model_checkInterfaces a0) := by
  have hM := maxLen_eq
  unfold M.model_checkInterfaces S.model_checkInterfaces
  refine s_if (fun hb1 => ?_) (fun hb1 => ?_)
  · rfl
  · refine s_bind (s_model_checkInterfaces_l1 a0 ha0 0) (fun y14 hey14 => ?_)
    refine s_elim (fun _ hl => ?_) (fun y16 hly16 => ?_)
    · rfl
    · rfl
noncomputable def S.model_PrefixList_1 (a0 : TPrefixList) (b0 : ByteArray) : Bool :=
  strEq a0.fName b0
theorem s_model_PrefixList_1 (a0 : TPrefixList) (b0 : ByteArray) (ha0 : L_TPrefixList a0) (hb0 : b0.size ≤ maxLen) : M.model_PrefixList_1 a0 b0 = some (S.model_PrefixList_1 a0 b0) := by
  have hM := maxLen_eq
  unfold M.model_PrefixList_1 S.model_PrefixList_1
  rfl
noncomputable def S.slices_IndexFunc_api_PrefixList_api_PrefixList__model_PrefixList_1_l1 (a0 : List TPrefixList) (a1c0 : ByteArray) (i1 : Nat) : Option (Unit ⊕ Int) :=
  letS (S.model_PrefixList_1 (a0.getD i1 default) a1c0) (fun r3 => bif r3 then (some (.inr (i1 : Int))) else none)
theorem s_slices_IndexFunc_api_PrefixList_api_PrefixList__model_PrefixList_1_l1 (a0 : List TPrefixList) (a1c0 : ByteArray) (ha0 : LL L_TPrefixList a0) (ha1c0 : a1c0.size ≤ maxLen) (i0 : Nat) : loopM (M.slices_IndexFunc_api_PrefixList_api_PrefixList__model_PrefixList_1_l1 a0 a1c0) (i0 : Int) = some (runN (S.slices_IndexFunc_api_PrefixList_api_PrefixList__model_PrefixList_1_l1 a0 a1c0) (.inl ()) i0 (a0.length - i0)) := by
  have hM := maxLen_eq
  have hni1 : a0.length ≤ maxLen := ha0.1
  refine loop_runN (n := a0.length) (fun i1 hi1 => ?_) (fun m hm => ?_) i0
  · unfold M.slices_IndexFunc_api_PrefixList_api_PrefixList__model_PrefixList_1_l1 S.slices_IndexFunc_api_PrefixList_api_PrefixList__model_PrefixList_1_l1
    try simp only [Int.toNat_natCast]
    refine s_then (dt (by omega)) ?_
    refine s_bindN (s_model_PrefixList_1 (a0.getD i1 default) a1c0 (LL.getD ha0 L_TPrefixList.dflt i1) ha1c0) (fun r3 her3 => ?_)
    refine s_gd (all_c (dt (by omega)) (all_c (dt (by omega)) all_n)) ?_
    refine s_ifN (fun hb1 => ?_) (fun hb1 => ?_)
    · exact s_out
    · exact s_up (by omega)
  · unfold M.slices_IndexFunc_api_PrefixList_api_PrefixList__model_PrefixList_1_l1
    try simp only [Int.toNat_natCast]
    exact s_else (decide_eq_false (by omega)) rfl
noncomputable def S.slices_IndexFunc_api_PrefixList_api_PrefixList__model_PrefixList_1 (a0 : List TPrefixList) (a1c0 : ByteArray) : Int :=
  letS (runN (S.slices_IndexFunc_api_PrefixList_api_PrefixList__model_PrefixList_1_l1 a0 a1c0) (.inl ()) 0 a0.length) (fun y4 => Sum.elim (fun _ => -1) (fun y6 => y6) y4)
theorem s_slices_IndexFunc_api_PrefixList_api_PrefixList__model_PrefixList_1 (a0 : List TPrefixList) (a1c0 : ByteArray) (ha0 : LL L_TPrefixList a0) (ha1c0 : a1c0.size ≤ maxLen) : M.slices_IndexFunc_api_PrefixList_api_PrefixList__model_PrefixList_1 a0 a1c0 = some (S.slices_IndexFunc_api_PrefixList_api_PrefixList__model_PrefixList_1 a0 a1c0) := by
  have hM := maxLen_eq
  unfold M.slices_IndexFunc_api_PrefixList_api_PrefixList__model_PrefixList_1 S.slices_IndexFunc_api_PrefixList_api_PrefixList__model_PrefixList_1
  refine s_bind (s_slices_IndexFunc_api_PrefixList_api_PrefixList__model_PrefixList_1_l1 a0 a1c0 ha0 ha1c0 0) (fun y4 hey4 => ?_)
  refine s_elim (fun _ hl => ?_) (fun y6 hly6 => ?_)
  · rfl
  · rfl
noncomputable def S.model_PrefixList (a0 : TRouter) (a1 : ByteArray) : Int :=
  letS (S.slices_IndexFunc_api_PrefixList_api_PrefixList__model_PrefixList_1 a0.fLists a1) (fun r1 => r1)
theorem s_model_PrefixList (a0 : TRouter) (a1 : ByteArray) (ha0 : L_TRouter a0) (ha1 : a1.size ≤ maxLen) : M.model_PrefixList a0 a1 = some (S.model_PrefixList a0 a1) := by
  have hM := maxLen_eq
  unfold M.model_PrefixList S.model_PrefixList
  refine s_bind (s_slices_IndexFunc_api_PrefixList_api_PrefixList__model_PrefixList_1 a0.fLists a1 (L_TRouter.fLists ha0) ha1) (fun r1 her1 => ?_)
  rfl
noncomputable def S.model_checkList (a0 : Int) (a1 : Int) (a2 : ByteArray) (a3 : Int) (a4 : Int) : Int :=
  letS (S.scan_Name a2) (fun r1 => bif !r1 then 3 else (bif decide (a1 < a0) then 4 else (bif a3 == 0 then 1 else (bif decide (a3 > a4) then 7 else 0))))
theorem s_model_checkList (a0 : Int) (a1 : Int) (a2 : ByteArray) (a3 : Int) (a4 : Int) (ha2 : a2.size ≤ maxLen) : M.model_checkList a0 a1 a2 a3 a4 = some (S.model_checkList a0 a1 a2 a3 a4) := by
  have hM := maxLen_eq
  unfold M.model_checkList S.model_checkList
  refine s_bind (s_scan_Name a2 ha2) (fun r1 her1 => ?_)
  refine s_if (fun hb1 => ?_) (fun hb1 => ?_)
  · rfl
  · refine s_if (fun hb2 => ?_) (fun hb2 => ?_)
    · rfl
    · refine s_if (fun hb3 => ?_) (fun hb3 => ?_)
      · rfl
      · refine s_if (fun hb4 => ?_) (fun hb4 => ?_)
        · rfl
        · rfl
noncomputable def S.addr_Valid (a0 : TPrefix) : Bool :=
  letS (bif ((decide (a0.fLen ≥ 0)) && (decide (a0.fLen ≤ 32))) then S.addr_Mask a0.fLen else default) (fun r1 => ((decide (a0.fLen ≥ 0)) && (decide (a0.fLen ≤ 32))) && ((bitD .andNot .u32 a0.fAddr r1) == 0))
theorem s_addr_Valid (a0 : TPrefix)  : M.addr_Valid a0 = some (S.addr_Valid a0) := by
  have hM := maxLen_eq
  unfold M.addr_Valid S.addr_Valid
  refine s_bind (s_gc fun hg => (s_addr_Mask a0.fLen)) (fun r1 her1 => ?_)
  rfl
noncomputable def S.model_checkPrefixLists_l2 (a0 : TRouter) (i1 : Nat) (i5 : Nat) : Option (Unit ⊕ Int) :=
  letS (S.addr_Valid ((((a0.fLists.getD i1 default).fRules).getD i5 default).fPrefix)) (fun r7 => bif (((!r7) || (decide (((((a0.fLists.getD i1 default).fRules).getD i5 default).fMin) < (((((a0.fLists.getD i1 default).fRules).getD i5 default).fPrefix).fLen)))) || (decide (((((a0.fLists.getD i1 default).fRules).getD i5 default).fMax) < ((((a0.fLists.getD i1 default).fRules).getD i5 default).fMin)))) || (decide (((((a0.fLists.getD i1 default).fRules).getD i5 default).fMax) > 32)) then (some (.inr 1)) else none)
theorem s_model_checkPrefixLists_l2 (a0 : TRouter) (i1 : Nat) (ha0 : L_TRouter a0) (hi1 : i1 < a0.fLists.length) (i0 : Nat) : loopM (M.model_checkPrefixLists_l2 a0 (i1 : Int)) (i0 : Int) = some (runN (S.model_checkPrefixLists_l2 a0 i1) (.inl ()) i0 (((a0.fLists.getD i1 default).fRules).length - i0)) := by
  have hM := maxLen_eq
  have hni1 : a0.fLists.length ≤ maxLen := (L_TRouter.fLists ha0).1
  have hni5 : ((a0.fLists.getD i1 default).fRules).length ≤ maxLen := (L_TPrefixList.fRules (LL.getD (L_TRouter.fLists ha0) L_TPrefixList.dflt i1))
  refine loop_runN (n := ((a0.fLists.getD i1 default).fRules).length) (fun i5 hi5 => ?_) (fun m hm => ?_) i0
  · unfold M.model_checkPrefixLists_l2 S.model_checkPrefixLists_l2
    try simp only [Int.toNat_natCast]
    refine s_then (dt (by omega)) ?_
    refine s_gd (all_c (dt (by omega)) (all_c (dt (by omega)) all_n)) ?_
    refine s_bindN (s_addr_Valid ((((a0.fLists.getD i1 default).fRules).getD i5 default).fPrefix)) (fun r7 her7 => ?_)
    refine s_ifN (fun hb3 => ?_) (fun hb3 => ?_)
    · exact s_out
    · exact s_up (by omega)
  · unfold M.model_checkPrefixLists_l2
    try simp only [Int.toNat_natCast]
    exact s_else (decide_eq_false (by omega)) rfl
noncomputable def S.model_checkPrefixLists_l1 (a0 : TRouter) (i1 : Nat) : Option (Unit ⊕ Int) :=
  letS (S.model_PrefixList a0 ((a0.fLists.getD i1 default).fName)) (fun r3 => letS (S.model_checkList (i1 : Int) r3 ((a0.fLists.getD i1 default).fName) (((a0.fLists.getD i1 default).fRules).length : Int) 16) (fun r4 => bif r4 != 0 then (some (.inr r4)) else (letS (runN (S.model_checkPrefixLists_l2 a0 i1) (.inl ()) 0 (((a0.fLists.getD i1 default).fRules).length)) (fun y8 => Sum.elim (fun _ => none) (fun y10 => some (.inr y10)) y8))))
theorem s_model_checkPrefixLists_l1 (a0 : TRouter) (ha0 : L_TRouter a0) (i0 : Nat) : loopM (M.model_checkPrefixLists_l1 a0) (i0 : Int) = some (runN (S.model_checkPrefixLists_l1 a0) (.inl ()) i0 (a0.fLists.length - i0)) := by
  have hM := maxLen_eq
  have hni1 : a0.fLists.length ≤ maxLen := (L_TRouter.fLists ha0).1
  refine loop_runN (n := a0.fLists.length) (fun i1 hi1 => ?_) (fun m hm => ?_) i0
  · unfold M.model_checkPrefixLists_l1 S.model_checkPrefixLists_l1
    try simp only [Int.toNat_natCast]
    refine s_then (dt (by omega)) ?_
    refine s_gd (all_c (dt (by omega)) (all_c (dt (by omega)) all_n)) ?_
    refine s_bindN (s_model_PrefixList a0 ((a0.fLists.getD i1 default).fName) ha0 (L_TPrefixList.fName (LL.getD (L_TRouter.fLists ha0) L_TPrefixList.dflt i1))) (fun r3 her3 => ?_)
    refine s_bindN (s_model_checkList (i1 : Int) r3 ((a0.fLists.getD i1 default).fName) (((a0.fLists.getD i1 default).fRules).length : Int) 16 (L_TPrefixList.fName (LL.getD (L_TRouter.fLists ha0) L_TPrefixList.dflt i1))) (fun r4 her4 => ?_)
    refine s_ifN (fun hb2 => ?_) (fun hb2 => ?_)
    · exact s_out
    · refine s_bindN (s_model_checkPrefixLists_l2 a0 i1 ha0 hi1 0) (fun y8 hey8 => ?_)
      refine s_elimN (fun _ hl => ?_) (fun y10 hly10 => ?_)
      · exact s_up (by omega)
      · exact s_out
  · unfold M.model_checkPrefixLists_l1
    try simp only [Int.toNat_natCast]
    exact s_else (decide_eq_false (by omega)) rfl
noncomputable def S.model_checkPrefixLists (a0 : TRouter) : Int :=
  bif decide ((a0.fLists.length : Int) > 8) then 7 else (letS (runN (S.model_checkPrefixLists_l1 a0) (.inl ()) 0 a0.fLists.length) (fun y11 => Sum.elim (fun _ => 0) (fun y13 => y13) y11))
theorem s_model_checkPrefixLists (a0 : TRouter) (ha0 : L_TRouter a0) : M.model_checkPrefixLists a0 = some (S.model_checkPrefixLists a0) := by
  have hM := maxLen_eq
  unfold M.model_checkPrefixLists S.model_checkPrefixLists
  refine s_if (fun hb1 => ?_) (fun hb1 => ?_)
  · rfl
  · refine s_bind (s_model_checkPrefixLists_l1 a0 ha0 0) (fun y11 hey11 => ?_)
    refine s_elim (fun _ hl => ?_) (fun y13 hly13 => ?_)
    · rfl
    · rfl
noncomputable def S.model_RouteMap_1 (a0 : TRouteMap) (b0 : ByteArray) : Bool :=
  strEq a0.fName b0
theorem s_model_RouteMap_1 (a0 : TRouteMap) (b0 : ByteArray) (ha0 : L_TRouteMap a0) (hb0 : b0.size ≤ maxLen) : M.model_RouteMap_1 a0 b0 = some (S.model_RouteMap_1 a0 b0) := by
  have hM := maxLen_eq
  unfold M.model_RouteMap_1 S.model_RouteMap_1
  rfl
noncomputable def S.slices_IndexFunc_api_RouteMap_api_RouteMap__model_RouteMap_1_l1 (a0 : List TRouteMap) (a1c0 : ByteArray) (i1 : Nat) : Option (Unit ⊕ Int) :=
  letS (S.model_RouteMap_1 (a0.getD i1 default) a1c0) (fun r3 => bif r3 then (some (.inr (i1 : Int))) else none)
theorem s_slices_IndexFunc_api_RouteMap_api_RouteMap__model_RouteMap_1_l1 (a0 : List TRouteMap) (a1c0 : ByteArray) (ha0 : LL L_TRouteMap a0) (ha1c0 : a1c0.size ≤ maxLen) (i0 : Nat) : loopM (M.slices_IndexFunc_api_RouteMap_api_RouteMap__model_RouteMap_1_l1 a0 a1c0) (i0 : Int) = some (runN (S.slices_IndexFunc_api_RouteMap_api_RouteMap__model_RouteMap_1_l1 a0 a1c0) (.inl ()) i0 (a0.length - i0)) := by
  have hM := maxLen_eq
  have hni1 : a0.length ≤ maxLen := ha0.1
  refine loop_runN (n := a0.length) (fun i1 hi1 => ?_) (fun m hm => ?_) i0
  · unfold M.slices_IndexFunc_api_RouteMap_api_RouteMap__model_RouteMap_1_l1 S.slices_IndexFunc_api_RouteMap_api_RouteMap__model_RouteMap_1_l1
    try simp only [Int.toNat_natCast]
    refine s_then (dt (by omega)) ?_
    refine s_bindN (s_model_RouteMap_1 (a0.getD i1 default) a1c0 (LL.getD ha0 L_TRouteMap.dflt i1) ha1c0) (fun r3 her3 => ?_)
    refine s_gd (all_c (dt (by omega)) (all_c (dt (by omega)) all_n)) ?_
    refine s_ifN (fun hb1 => ?_) (fun hb1 => ?_)
    · exact s_out
    · exact s_up (by omega)
  · unfold M.slices_IndexFunc_api_RouteMap_api_RouteMap__model_RouteMap_1_l1
    try simp only [Int.toNat_natCast]
    exact s_else (decide_eq_false (by omega)) rfl
noncomputable def S.slices_IndexFunc_api_RouteMap_api_RouteMap__model_RouteMap_1 (a0 : List TRouteMap) (a1c0 : ByteArray) : Int :=
  letS (runN (S.slices_IndexFunc_api_RouteMap_api_RouteMap__model_RouteMap_1_l1 a0 a1c0) (.inl ()) 0 a0.length) (fun y4 => Sum.elim (fun _ => -1) (fun y6 => y6) y4)
theorem s_slices_IndexFunc_api_RouteMap_api_RouteMap__model_RouteMap_1 (a0 : List TRouteMap) (a1c0 : ByteArray) (ha0 : LL L_TRouteMap a0) (ha1c0 : a1c0.size ≤ maxLen) : M.slices_IndexFunc_api_RouteMap_api_RouteMap__model_RouteMap_1 a0 a1c0 = some (S.slices_IndexFunc_api_RouteMap_api_RouteMap__model_RouteMap_1 a0 a1c0) := by
  have hM := maxLen_eq
  unfold M.slices_IndexFunc_api_RouteMap_api_RouteMap__model_RouteMap_1 S.slices_IndexFunc_api_RouteMap_api_RouteMap__model_RouteMap_1
  refine s_bind (s_slices_IndexFunc_api_RouteMap_api_RouteMap__model_RouteMap_1_l1 a0 a1c0 ha0 ha1c0 0) (fun y4 hey4 => ?_)
  refine s_elim (fun _ hl => ?_) (fun y6 hly6 => ?_)
  · rfl
  · rfl
noncomputable def S.model_RouteMap (a0 : TRouter) (a1 : ByteArray) : Int :=
  letS (S.slices_IndexFunc_api_RouteMap_api_RouteMap__model_RouteMap_1 a0.fMaps a1) (fun r1 => r1)
theorem s_model_RouteMap (a0 : TRouter) (a1 : ByteArray) (ha0 : L_TRouter a0) (ha1 : a1.size ≤ maxLen) : M.model_RouteMap a0 a1 = some (S.model_RouteMap a0 a1) := by
  have hM := maxLen_eq
  unfold M.model_RouteMap S.model_RouteMap
  refine s_bind (s_slices_IndexFunc_api_RouteMap_api_RouteMap__model_RouteMap_1 a0.fMaps a1 (L_TRouter.fMaps ha0) ha1) (fun r1 her1 => ?_)
  rfl
noncomputable def S.model_rightClause (a0 : TClause) : Bool :=
  letS (S.model_within a0.fTag (-1) 65535) (fun r1 => letS (bif r1 then S.model_within a0.fSetMetric (-1) 16777215 else default) (fun r2 => letS (bif (r1 && r2) then S.model_within a0.fSetTag (-1) 65535 else default) (fun r3 => letS (bif ((r1 && r2) && r3) then S.model_within a0.fSetPref (-1) 1000000 else default) (fun r4 => letS (bif (((r1 && r2) && r3) && r4) then S.model_within a0.fPrepend 0 8 else default) (fun r5 => (((r1 && r2) && r3) && r4) && r5)))))
theorem s_model_rightClause (a0 : TClause) (ha0 : L_TClause a0) : M.model_rightClause a0 = some (S.model_rightClause a0) := by
  have hM := maxLen_eq
  unfold M.model_rightClause S.model_rightClause
  refine s_bind (s_model_within a0.fTag (-1) 65535) (fun r1 her1 => ?_)
  refine s_bind (s_gc fun hg => (s_model_within a0.fSetMetric (-1) 16777215)) (fun r2 her2 => ?_)
  refine s_bind (s_gc fun hg => (s_model_within a0.fSetTag (-1) 65535)) (fun r3 her3 => ?_)
  refine s_bind (s_gc fun hg => (s_model_within a0.fSetPref (-1) 1000000)) (fun r4 her4 => ?_)
  refine s_bind (s_gc fun hg => (s_model_within a0.fPrepend 0 8)) (fun r5 her5 => ?_)
  rfl
noncomputable def S.model_checkRouteMaps_l2 (a0 : TRouter) (i1 : Nat) (i5 : Nat) : Option (Unit ⊕ Int) :=
  letS (bif (!strEq ((((a0.fMaps.getD i1 default).fClauses).getD i5 default).fList) (⟨#[]⟩ : ByteArray)) then S.model_PrefixList a0 ((((a0.fMaps.getD i1 default).fClauses).getD i5 default).fList) else default) (fun r7 => bif (!strEq ((((a0.fMaps.getD i1 default).fClauses).getD i5 default).fList) (⟨#[]⟩ : ByteArray)) && (decide (r7 < 0)) then (some (.inr 5)) else (letS (S.model_rightClause (((a0.fMaps.getD i1 default).fClauses).getD i5 default)) (fun r8 => bif !r8 then (some (.inr 1)) else none)))
theorem s_model_checkRouteMaps_l2 (a0 : TRouter) (i1 : Nat) (ha0 : L_TRouter a0) (hi1 : i1 < a0.fMaps.length) (i0 : Nat) : loopM (M.model_checkRouteMaps_l2 a0 (i1 : Int)) (i0 : Int) = some (runN (S.model_checkRouteMaps_l2 a0 i1) (.inl ()) i0 (((a0.fMaps.getD i1 default).fClauses).length - i0)) := by
  have hM := maxLen_eq
  have hni1 : a0.fMaps.length ≤ maxLen := (L_TRouter.fMaps ha0).1
  have hni5 : ((a0.fMaps.getD i1 default).fClauses).length ≤ maxLen := (L_TRouteMap.fClauses (LL.getD (L_TRouter.fMaps ha0) L_TRouteMap.dflt i1)).1
  refine loop_runN (n := ((a0.fMaps.getD i1 default).fClauses).length) (fun i5 hi5 => ?_) (fun m hm => ?_) i0
  · unfold M.model_checkRouteMaps_l2 S.model_checkRouteMaps_l2
    try simp only [Int.toNat_natCast]
    refine s_then (dt (by omega)) ?_
    refine s_gd (all_c (dt (by omega)) (all_c (dt (by omega)) all_n)) ?_
    refine s_bindN (s_gc fun hg => (s_model_PrefixList a0 ((((a0.fMaps.getD i1 default).fClauses).getD i5 default).fList) ha0 (L_TClause.fList (LL.getD (L_TRouteMap.fClauses (LL.getD (L_TRouter.fMaps ha0) L_TRouteMap.dflt i1)) L_TClause.dflt i5)))) (fun r7 her7 => ?_)
    refine s_ifN (fun hb3 => ?_) (fun hb3 => ?_)
    · exact s_out
    · refine s_bindN (s_model_rightClause (((a0.fMaps.getD i1 default).fClauses).getD i5 default) (LL.getD (L_TRouteMap.fClauses (LL.getD (L_TRouter.fMaps ha0) L_TRouteMap.dflt i1)) L_TClause.dflt i5)) (fun r8 her8 => ?_)
      refine s_ifN (fun hb4 => ?_) (fun hb4 => ?_)
      · exact s_out
      · exact s_up (by omega)
  · unfold M.model_checkRouteMaps_l2
    try simp only [Int.toNat_natCast]
    exact s_else (decide_eq_false (by omega)) rfl
noncomputable def S.model_checkRouteMaps_l1 (a0 : TRouter) (i1 : Nat) : Option (Unit ⊕ Int) :=
  letS (S.model_RouteMap a0 ((a0.fMaps.getD i1 default).fName)) (fun r3 => letS (S.model_checkList (i1 : Int) r3 ((a0.fMaps.getD i1 default).fName) (((a0.fMaps.getD i1 default).fClauses).length : Int) 8) (fun r4 => bif r4 != 0 then (some (.inr r4)) else (letS (runN (S.model_checkRouteMaps_l2 a0 i1) (.inl ()) 0 (((a0.fMaps.getD i1 default).fClauses).length)) (fun y9 => Sum.elim (fun _ => none) (fun y11 => some (.inr y11)) y9))))
theorem s_model_checkRouteMaps_l1 (a0 : TRouter) (ha0 : L_TRouter a0) (i0 : Nat) : loopM (M.model_checkRouteMaps_l1 a0) (i0 : Int) = some (runN (S.model_checkRouteMaps_l1 a0) (.inl ()) i0 (a0.fMaps.length - i0)) := by
  have hM := maxLen_eq
  have hni1 : a0.fMaps.length ≤ maxLen := (L_TRouter.fMaps ha0).1
  refine loop_runN (n := a0.fMaps.length) (fun i1 hi1 => ?_) (fun m hm => ?_) i0
  · unfold M.model_checkRouteMaps_l1 S.model_checkRouteMaps_l1
    try simp only [Int.toNat_natCast]
    refine s_then (dt (by omega)) ?_
    refine s_gd (all_c (dt (by omega)) (all_c (dt (by omega)) all_n)) ?_
    refine s_bindN (s_model_RouteMap a0 ((a0.fMaps.getD i1 default).fName) ha0 (L_TRouteMap.fName (LL.getD (L_TRouter.fMaps ha0) L_TRouteMap.dflt i1))) (fun r3 her3 => ?_)
    refine s_bindN (s_model_checkList (i1 : Int) r3 ((a0.fMaps.getD i1 default).fName) (((a0.fMaps.getD i1 default).fClauses).length : Int) 8 (L_TRouteMap.fName (LL.getD (L_TRouter.fMaps ha0) L_TRouteMap.dflt i1))) (fun r4 her4 => ?_)
    refine s_ifN (fun hb2 => ?_) (fun hb2 => ?_)
    · exact s_out
    · refine s_bindN (s_model_checkRouteMaps_l2 a0 i1 ha0 hi1 0) (fun y9 hey9 => ?_)
      refine s_elimN (fun _ hl => ?_) (fun y11 hly11 => ?_)
      · exact s_up (by omega)
      · exact s_out
  · unfold M.model_checkRouteMaps_l1
    try simp only [Int.toNat_natCast]
    exact s_else (decide_eq_false (by omega)) rfl
noncomputable def S.model_checkRouteMaps (a0 : TRouter) : Int :=
  bif decide ((a0.fMaps.length : Int) > 8) then 7 else (letS (runN (S.model_checkRouteMaps_l1 a0) (.inl ()) 0 a0.fMaps.length) (fun y12 => Sum.elim (fun _ => 0) (fun y14 => y14) y12))
theorem s_model_checkRouteMaps (a0 : TRouter) (ha0 : L_TRouter a0) : M.model_checkRouteMaps a0 = some (S.model_checkRouteMaps a0) := by
  have hM := maxLen_eq
  unfold M.model_checkRouteMaps S.model_checkRouteMaps
  refine s_if (fun hb1 => ?_) (fun hb1 => ?_)
  · rfl
  · refine s_bind (s_model_checkRouteMaps_l1 a0 ha0 0) (fun y12 hey12 => ?_)
    refine s_elim (fun _ hl => ?_) (fun y14 hly14 => ?_)
    · rfl
    · rfl
noncomputable def S.model_ACL_1 (a0 : TACL) (b0 : ByteArray) : Bool :=
  strEq a0.fName b0
theorem s_model_ACL_1 (a0 : TACL) (b0 : ByteArray) (ha0 : L_TACL a0) (hb0 : b0.size ≤ maxLen) : M.model_ACL_1 a0 b0 = some (S.model_ACL_1 a0 b0) := by
  have hM := maxLen_eq
  unfold M.model_ACL_1 S.model_ACL_1
  rfl
noncomputable def S.slices_IndexFunc_api_ACL_api_ACL__model_ACL_1_l1 (a0 : List TACL) (a1c0 : ByteArray) (i1 : Nat) : Option (Unit ⊕ Int) :=
  letS (S.model_ACL_1 (a0.getD i1 default) a1c0) (fun r3 => bif r3 then (some (.inr (i1 : Int))) else none)
theorem s_slices_IndexFunc_api_ACL_api_ACL__model_ACL_1_l1 (a0 : List TACL) (a1c0 : ByteArray) (ha0 : LL L_TACL a0) (ha1c0 : a1c0.size ≤ maxLen) (i0 : Nat) : loopM (M.slices_IndexFunc_api_ACL_api_ACL__model_ACL_1_l1 a0 a1c0) (i0 : Int) = some (runN (S.slices_IndexFunc_api_ACL_api_ACL__model_ACL_1_l1 a0 a1c0) (.inl ()) i0 (a0.length - i0)) := by
  have hM := maxLen_eq
  have hni1 : a0.length ≤ maxLen := ha0.1
  refine loop_runN (n := a0.length) (fun i1 hi1 => ?_) (fun m hm => ?_) i0
  · unfold M.slices_IndexFunc_api_ACL_api_ACL__model_ACL_1_l1 S.slices_IndexFunc_api_ACL_api_ACL__model_ACL_1_l1
    try simp only [Int.toNat_natCast]
    refine s_then (dt (by omega)) ?_
    refine s_bindN (s_model_ACL_1 (a0.getD i1 default) a1c0 (LL.getD ha0 L_TACL.dflt i1) ha1c0) (fun r3 her3 => ?_)
    refine s_gd (all_c (dt (by omega)) (all_c (dt (by omega)) all_n)) ?_
    refine s_ifN (fun hb1 => ?_) (fun hb1 => ?_)
    · exact s_out
    · exact s_up (by omega)
  · unfold M.slices_IndexFunc_api_ACL_api_ACL__model_ACL_1_l1
    try simp only [Int.toNat_natCast]
    exact s_else (decide_eq_false (by omega)) rfl
noncomputable def S.slices_IndexFunc_api_ACL_api_ACL__model_ACL_1 (a0 : List TACL) (a1c0 : ByteArray) : Int :=
  letS (runN (S.slices_IndexFunc_api_ACL_api_ACL__model_ACL_1_l1 a0 a1c0) (.inl ()) 0 a0.length) (fun y4 => Sum.elim (fun _ => -1) (fun y6 => y6) y4)
theorem s_slices_IndexFunc_api_ACL_api_ACL__model_ACL_1 (a0 : List TACL) (a1c0 : ByteArray) (ha0 : LL L_TACL a0) (ha1c0 : a1c0.size ≤ maxLen) : M.slices_IndexFunc_api_ACL_api_ACL__model_ACL_1 a0 a1c0 = some (S.slices_IndexFunc_api_ACL_api_ACL__model_ACL_1 a0 a1c0) := by
  have hM := maxLen_eq
  unfold M.slices_IndexFunc_api_ACL_api_ACL__model_ACL_1 S.slices_IndexFunc_api_ACL_api_ACL__model_ACL_1
  refine s_bind (s_slices_IndexFunc_api_ACL_api_ACL__model_ACL_1_l1 a0 a1c0 ha0 ha1c0 0) (fun y4 hey4 => ?_)
  refine s_elim (fun _ hl => ?_) (fun y6 hly6 => ?_)
  · rfl
  · rfl
noncomputable def S.model_ACL (a0 : TRouter) (a1 : ByteArray) : Int :=
  letS (S.slices_IndexFunc_api_ACL_api_ACL__model_ACL_1 a0.fACLs a1) (fun r1 => r1)
theorem s_model_ACL (a0 : TRouter) (a1 : ByteArray) (ha0 : L_TRouter a0) (ha1 : a1.size ≤ maxLen) : M.model_ACL a0 a1 = some (S.model_ACL a0 a1) := by
  have hM := maxLen_eq
  unfold M.model_ACL S.model_ACL
  refine s_bind (s_slices_IndexFunc_api_ACL_api_ACL__model_ACL_1 a0.fACLs a1 (L_TRouter.fACLs ha0) ha1) (fun r1 her1 => ?_)
  rfl
noncomputable def S.model_rightPorts (a0 : TPortRange) : Bool :=
  ((decide (0 ≤ a0.fLo)) && (decide (a0.fLo ≤ a0.fHi))) && (decide (a0.fHi ≤ 65535))
theorem s_model_rightPorts (a0 : TPortRange)  : M.model_rightPorts a0 = some (S.model_rightPorts a0) := by
  have hM := maxLen_eq
  unfold M.model_rightPorts S.model_rightPorts
  rfl
noncomputable def S.model_rightRule (a0 : TRule) : Bool :=
  letS (S.model_within a0.fProto (-1) 255) (fun r1 => bif ((!r1) || ((bitD .and .u32 a0.fSrc.fAddr a0.fSrc.fMask) != 0)) || ((bitD .and .u32 a0.fDst.fAddr a0.fDst.fMask) != 0) then false else (letS (S.model_rightPorts a0.fSrcPorts) (fun r2 => letS (bif (!(!r2)) then S.model_rightPorts a0.fDstPorts else default) (fun r3 => bif (!r2) || (!r3) then false else (((a0.fProto == 6) || (a0.fProto == 17)) || (((a0.fSrcPorts.fLo == 0) && ((a0.fSrcPorts.fHi == 65535) && true)) && ((a0.fDstPorts.fLo == 0) && ((a0.fDstPorts.fHi == 65535) && true))))))))
theorem s_model_rightRule (a0 : TRule)  : M.model_rightRule a0 = some (S.model_rightRule a0) := by
  have hM := maxLen_eq
  unfold M.model_rightRule S.model_rightRule
  refine s_bind (s_model_within a0.fProto (-1) 255) (fun r1 her1 => ?_)
  refine s_if (fun hb1 => ?_) (fun hb1 => ?_)
  · rfl
  · refine s_bind (s_model_rightPorts a0.fSrcPorts) (fun r2 her2 => ?_)
    refine s_bind (s_gc fun hg => (s_model_rightPorts a0.fDstPorts)) (fun r3 her3 => ?_)
    refine s_if (fun hb2 => ?_) (fun hb2 => ?_)
    · rfl
    · rfl
noncomputable def S.model_checkACLs_l2 (a0 : TRouter) (i1 : Nat) (i5 : Nat) : Option (Unit ⊕ Int) :=
  letS (S.model_rightRule (((a0.fACLs.getD i1 default).fRules).getD i5 default)) (fun r7 => bif !r7 then (some (.inr 1)) else none)
theorem s_model_checkACLs_l2 (a0 : TRouter) (i1 : Nat) (ha0 : L_TRouter a0) (hi1 : i1 < a0.fACLs.length) (i0 : Nat) : loopM (M.model_checkACLs_l2 a0 (i1 : Int)) (i0 : Int) = some (runN (S.model_checkACLs_l2 a0 i1) (.inl ()) i0 (((a0.fACLs.getD i1 default).fRules).length - i0)) := by
  have hM := maxLen_eq
  have hni1 : a0.fACLs.length ≤ maxLen := (L_TRouter.fACLs ha0).1
  have hni5 : ((a0.fACLs.getD i1 default).fRules).length ≤ maxLen := (L_TACL.fRules (LL.getD (L_TRouter.fACLs ha0) L_TACL.dflt i1))
  refine loop_runN (n := ((a0.fACLs.getD i1 default).fRules).length) (fun i5 hi5 => ?_) (fun m hm => ?_) i0
  · unfold M.model_checkACLs_l2 S.model_checkACLs_l2
    try simp only [Int.toNat_natCast]
    refine s_then (dt (by omega)) ?_
    refine s_gd (all_c (dt (by omega)) (all_c (dt (by omega)) all_n)) ?_
    refine s_bindN (s_model_rightRule (((a0.fACLs.getD i1 default).fRules).getD i5 default)) (fun r7 her7 => ?_)
    refine s_ifN (fun hb3 => ?_) (fun hb3 => ?_)
    · exact s_out
    · exact s_up (by omega)
  · unfold M.model_checkACLs_l2
    try simp only [Int.toNat_natCast]
    exact s_else (decide_eq_false (by omega)) rfl
noncomputable def S.model_checkACLs_l1 (a0 : TRouter) (i1 : Nat) : Option (Unit ⊕ Int) :=
  letS (S.model_ACL a0 ((a0.fACLs.getD i1 default).fName)) (fun r3 => letS (S.model_checkList (i1 : Int) r3 ((a0.fACLs.getD i1 default).fName) (((a0.fACLs.getD i1 default).fRules).length : Int) 16) (fun r4 => bif r4 != 0 then (some (.inr r4)) else (letS (runN (S.model_checkACLs_l2 a0 i1) (.inl ()) 0 (((a0.fACLs.getD i1 default).fRules).length)) (fun y8 => Sum.elim (fun _ => none) (fun y10 => some (.inr y10)) y8))))
theorem s_model_checkACLs_l1 (a0 : TRouter) (ha0 : L_TRouter a0) (i0 : Nat) : loopM (M.model_checkACLs_l1 a0) (i0 : Int) = some (runN (S.model_checkACLs_l1 a0) (.inl ()) i0 (a0.fACLs.length - i0)) := by
  have hM := maxLen_eq
  have hni1 : a0.fACLs.length ≤ maxLen := (L_TRouter.fACLs ha0).1
  refine loop_runN (n := a0.fACLs.length) (fun i1 hi1 => ?_) (fun m hm => ?_) i0
  · unfold M.model_checkACLs_l1 S.model_checkACLs_l1
    try simp only [Int.toNat_natCast]
    refine s_then (dt (by omega)) ?_
    refine s_gd (all_c (dt (by omega)) (all_c (dt (by omega)) all_n)) ?_
    refine s_bindN (s_model_ACL a0 ((a0.fACLs.getD i1 default).fName) ha0 (L_TACL.fName (LL.getD (L_TRouter.fACLs ha0) L_TACL.dflt i1))) (fun r3 her3 => ?_)
    refine s_bindN (s_model_checkList (i1 : Int) r3 ((a0.fACLs.getD i1 default).fName) (((a0.fACLs.getD i1 default).fRules).length : Int) 16 (L_TACL.fName (LL.getD (L_TRouter.fACLs ha0) L_TACL.dflt i1))) (fun r4 her4 => ?_)
    refine s_ifN (fun hb2 => ?_) (fun hb2 => ?_)
    · exact s_out
    · refine s_bindN (s_model_checkACLs_l2 a0 i1 ha0 hi1 0) (fun y8 hey8 => ?_)
      refine s_elimN (fun _ hl => ?_) (fun y10 hly10 => ?_)
      · exact s_up (by omega)
      · exact s_out
  · unfold M.model_checkACLs_l1
    try simp only [Int.toNat_natCast]
    exact s_else (decide_eq_false (by omega)) rfl
noncomputable def S.model_checkACLs (a0 : TRouter) : Int :=
  bif decide ((a0.fACLs.length : Int) > 8) then 7 else (letS (runN (S.model_checkACLs_l1 a0) (.inl ()) 0 a0.fACLs.length) (fun y11 => Sum.elim (fun _ => 0) (fun y13 => y13) y11))
theorem s_model_checkACLs (a0 : TRouter) (ha0 : L_TRouter a0) : M.model_checkACLs a0 = some (S.model_checkACLs a0) := by
  have hM := maxLen_eq
  unfold M.model_checkACLs S.model_checkACLs
  refine s_if (fun hb1 => ?_) (fun hb1 => ?_)
  · rfl
  · refine s_bind (s_model_checkACLs_l1 a0 ha0 0) (fun y11 hey11 => ?_)
    refine s_elim (fun _ hl => ?_) (fun y13 hly13 => ?_)
    · rfl
    · rfl
noncomputable def S.model_rightTranslation (a0 : TTranslation) : Bool :=
  bif a0.fKind == 1 then ((((a0.fKind == a0.fKind) && ((a0.fInside == a0.fInside) && ((a0.fOutside == a0.fOutside) && ((a0.fProto == 0) && ((a0.fInsidePort == 0) && ((a0.fOutsidePort == 0) && (strEq a0.fList (⟨#[]⟩ : ByteArray) && ((a0.fLo == 0) && ((a0.fHi == 0) && true))))))))) && (a0.fInside != 0)) && (a0.fOutside != 0)) else (bif a0.fKind == 2 then (((((a0.fKind == a0.fKind) && ((a0.fInside == 0) && ((a0.fOutside == 0) && ((a0.fProto == 0) && ((a0.fInsidePort == 0) && ((a0.fOutsidePort == 0) && (strEq a0.fList a0.fList && ((a0.fLo == a0.fLo) && ((a0.fHi == a0.fHi) && true))))))))) && (a0.fLo != 0)) && (decide (a0.fLo ≤ a0.fHi))) && (decide ((wr .u32 (a0.fHi - a0.fLo)) < 8))) else (bif a0.fKind == 3 then (letS (bif (((a0.fInside != 0) && (a0.fOutside != 0)) && ((a0.fProto == 6) || (a0.fProto == 17))) then S.model_within a0.fInsidePort 0 65535 else default) (fun r1 => letS (bif ((((a0.fInside != 0) && (a0.fOutside != 0)) && ((a0.fProto == 6) || (a0.fProto == 17))) && r1) then S.model_within a0.fOutsidePort 0 65535 else default) (fun r2 => (((((((a0.fInside != 0) && (a0.fOutside != 0)) && ((a0.fProto == 6) || (a0.fProto == 17))) && r1) && r2) && (strEq a0.fList (⟨#[]⟩ : ByteArray))) && (a0.fLo == 0)) && (a0.fHi == 0)))) else false))
theorem s_model_rightTranslation (a0 : TTranslation) (ha0 : L_TTranslation a0) : M.model_rightTranslation a0 = some (S.model_rightTranslation a0) := by
  have hM := maxLen_eq
  unfold M.model_rightTranslation S.model_rightTranslation
  refine s_if (fun hb1 => ?_) (fun hb1 => ?_)
  · rfl
  · refine s_if (fun hb2 => ?_) (fun hb2 => ?_)
    · rfl
    · refine s_if (fun hb3 => ?_) (fun hb3 => ?_)
      · refine s_bind (s_gc fun hg => (s_model_within a0.fInsidePort 0 65535)) (fun r1 her1 => ?_)
        refine s_bind (s_gc fun hg => (s_model_within a0.fOutsidePort 0 65535)) (fun r2 her2 => ?_)
        rfl
      · rfl
noncomputable def S.model_checkNAT_l1 (a0 : TRouter) (i1 : Nat) : Option (Unit ⊕ Int) :=
  letS (S.model_rightTranslation (a0.fNAT.getD i1 default)) (fun r3 => bif !r3 then (some (.inr 1)) else (letS (bif (((a0.fNAT.getD i1 default).fKind) == 2) then S.model_ACL a0 ((a0.fNAT.getD i1 default).fList) else default) (fun r4 => bif (((a0.fNAT.getD i1 default).fKind) == 2) && (decide (r4 < 0)) then (some (.inr 5)) else none)))
theorem s_model_checkNAT_l1 (a0 : TRouter) (ha0 : L_TRouter a0) (i0 : Nat) : loopM (M.model_checkNAT_l1 a0) (i0 : Int) = some (runN (S.model_checkNAT_l1 a0) (.inl ()) i0 (a0.fNAT.length - i0)) := by
  have hM := maxLen_eq
  have hni1 : a0.fNAT.length ≤ maxLen := (L_TRouter.fNAT ha0).1
  refine loop_runN (n := a0.fNAT.length) (fun i1 hi1 => ?_) (fun m hm => ?_) i0
  · unfold M.model_checkNAT_l1 S.model_checkNAT_l1
    try simp only [Int.toNat_natCast]
    refine s_then (dt (by omega)) ?_
    refine s_gd (all_c (dt (by omega)) (all_c (dt (by omega)) all_n)) ?_
    refine s_bindN (s_model_rightTranslation (a0.fNAT.getD i1 default) (LL.getD (L_TRouter.fNAT ha0) L_TTranslation.dflt i1)) (fun r3 her3 => ?_)
    refine s_ifN (fun hb2 => ?_) (fun hb2 => ?_)
    · exact s_out
    · refine s_bindN (s_gc fun hg => (s_model_ACL a0 ((a0.fNAT.getD i1 default).fList) ha0 (L_TTranslation.fList (LL.getD (L_TRouter.fNAT ha0) L_TTranslation.dflt i1)))) (fun r4 her4 => ?_)
      refine s_ifN (fun hb3 => ?_) (fun hb3 => ?_)
      · exact s_out
      · exact s_up (by omega)
  · unfold M.model_checkNAT_l1
    try simp only [Int.toNat_natCast]
    exact s_else (decide_eq_false (by omega)) rfl
noncomputable def S.model_checkNAT (a0 : TRouter) : Int :=
  bif decide ((a0.fNAT.length : Int) > 8) then 7 else (letS (runN (S.model_checkNAT_l1 a0) (.inl ()) 0 a0.fNAT.length) (fun y5 => Sum.elim (fun _ => 0) (fun y7 => y7) y5))
theorem s_model_checkNAT (a0 : TRouter) (ha0 : L_TRouter a0) : M.model_checkNAT a0 = some (S.model_checkNAT a0) := by
  have hM := maxLen_eq
  unfold M.model_checkNAT S.model_checkNAT
  refine s_if (fun hb1 => ?_) (fun hb1 => ?_)
  · rfl
  · refine s_bind (s_model_checkNAT_l1 a0 ha0 0) (fun y5 hey5 => ?_)
    refine s_elim (fun _ hl => ?_) (fun y7 hly7 => ?_)
    · rfl
    · rfl
noncomputable def S.model_checkFilters_l1 (a0 : TRouter) (i1 : Nat) : Option (Unit ⊕ Int) :=
  letS (bif (!strEq ((a0.fInterfaces.getD i1 default).fIn) (⟨#[]⟩ : ByteArray)) then S.model_ACL a0 ((a0.fInterfaces.getD i1 default).fIn) else default) (fun r3 => letS (bif ((!((!strEq ((a0.fInterfaces.getD i1 default).fIn) (⟨#[]⟩ : ByteArray)) && (decide (r3 < 0)))) && (!strEq ((a0.fInterfaces.getD i1 default).fOut) (⟨#[]⟩ : ByteArray))) then S.model_ACL a0 ((a0.fInterfaces.getD i1 default).fOut) else default) (fun r4 => bif ((!strEq ((a0.fInterfaces.getD i1 default).fIn) (⟨#[]⟩ : ByteArray)) && (decide (r3 < 0))) || ((!strEq ((a0.fInterfaces.getD i1 default).fOut) (⟨#[]⟩ : ByteArray)) && (decide (r4 < 0))) then (some (.inr 5)) else none))
theorem s_model_checkFilters_l1 (a0 : TRouter) (ha0 : L_TRouter a0) (i0 : Nat) : loopM (M.model_checkFilters_l1 a0) (i0 : Int) = some (runN (S.model_checkFilters_l1 a0) (.inl ()) i0 (a0.fInterfaces.length - i0)) := by
  have hM := maxLen_eq
  have hni1 : a0.fInterfaces.length ≤ maxLen := (L_TRouter.fInterfaces ha0).1
  refine loop_runN (n := a0.fInterfaces.length) (fun i1 hi1 => ?_) (fun m hm => ?_) i0
  · unfold M.model_checkFilters_l1 S.model_checkFilters_l1
    try simp only [Int.toNat_natCast]
    refine s_then (dt (by omega)) ?_
    refine s_gd (all_c (dt (by omega)) (all_c (dt (by omega)) all_n)) ?_
    refine s_bindN (s_gc fun hg => (s_model_ACL a0 ((a0.fInterfaces.getD i1 default).fIn) ha0 (L_TInterface.fIn (LL.getD (L_TRouter.fInterfaces ha0) L_TInterface.dflt i1)))) (fun r3 her3 => ?_)
    refine s_bindN (s_gc fun hg => (s_model_ACL a0 ((a0.fInterfaces.getD i1 default).fOut) ha0 (L_TInterface.fOut (LL.getD (L_TRouter.fInterfaces ha0) L_TInterface.dflt i1)))) (fun r4 her4 => ?_)
    refine s_ifN (fun hb1 => ?_) (fun hb1 => ?_)
    · exact s_out
    · exact s_up (by omega)
  · unfold M.model_checkFilters_l1
    try simp only [Int.toNat_natCast]
    exact s_else (decide_eq_false (by omega)) rfl
noncomputable def S.model_checkFilters (a0 : TRouter) : Int :=
  letS (runN (S.model_checkFilters_l1 a0) (.inl ()) 0 a0.fInterfaces.length) (fun y5 => Sum.elim (fun _ => 0) (fun y7 => y7) y5)
theorem s_model_checkFilters (a0 : TRouter) (ha0 : L_TRouter a0) : M.model_checkFilters a0 = some (S.model_checkFilters a0) := by
  have hM := maxLen_eq
  unfold M.model_checkFilters S.model_checkFilters
  refine s_bind (s_model_checkFilters_l1 a0 ha0 0) (fun y5 hey5 => ?_)
  refine s_elim (fun _ hl => ?_) (fun y7 hly7 => ?_)
  · rfl
  · rfl
noncomputable def S.model_Address_1 (a0 : TInterface) (b0 : Int) : Bool :=
  (a0.fLen != 0) && (a0.fAddr == b0)
theorem s_model_Address_1 (a0 : TInterface) (b0 : Int) (ha0 : L_TInterface a0) : M.model_Address_1 a0 b0 = some (S.model_Address_1 a0 b0) := by
  have hM := maxLen_eq
  unfold M.model_Address_1 S.model_Address_1
  rfl
noncomputable def S.slices_IndexFunc_api_Interface_api_Interface__model_Address_1_l1 (a0 : List TInterface) (a1c0 : Int) (i1 : Nat) : Option (Unit ⊕ Int) :=
  letS (S.model_Address_1 (a0.getD i1 default) a1c0) (fun r3 => bif r3 then (some (.inr (i1 : Int))) else none)
theorem s_slices_IndexFunc_api_Interface_api_Interface__model_Address_1_l1 (a0 : List TInterface) (a1c0 : Int) (ha0 : LL L_TInterface a0) (i0 : Nat) : loopM (M.slices_IndexFunc_api_Interface_api_Interface__model_Address_1_l1 a0 a1c0) (i0 : Int) = some (runN (S.slices_IndexFunc_api_Interface_api_Interface__model_Address_1_l1 a0 a1c0) (.inl ()) i0 (a0.length - i0)) := by
  have hM := maxLen_eq
  have hni1 : a0.length ≤ maxLen := ha0.1
  refine loop_runN (n := a0.length) (fun i1 hi1 => ?_) (fun m hm => ?_) i0
  · unfold M.slices_IndexFunc_api_Interface_api_Interface__model_Address_1_l1 S.slices_IndexFunc_api_Interface_api_Interface__model_Address_1_l1
    try simp only [Int.toNat_natCast]
    refine s_then (dt (by omega)) ?_
    refine s_bindN (s_model_Address_1 (a0.getD i1 default) a1c0 (LL.getD ha0 L_TInterface.dflt i1)) (fun r3 her3 => ?_)
    refine s_gd (all_c (dt (by omega)) (all_c (dt (by omega)) all_n)) ?_
    refine s_ifN (fun hb1 => ?_) (fun hb1 => ?_)
    · exact s_out
    · exact s_up (by omega)
  · unfold M.slices_IndexFunc_api_Interface_api_Interface__model_Address_1_l1
    try simp only [Int.toNat_natCast]
    exact s_else (decide_eq_false (by omega)) rfl
noncomputable def S.slices_IndexFunc_api_Interface_api_Interface__model_Address_1 (a0 : List TInterface) (a1c0 : Int) : Int :=
  letS (runN (S.slices_IndexFunc_api_Interface_api_Interface__model_Address_1_l1 a0 a1c0) (.inl ()) 0 a0.length) (fun y4 => Sum.elim (fun _ => -1) (fun y6 => y6) y4)
theorem s_slices_IndexFunc_api_Interface_api_Interface__model_Address_1 (a0 : List TInterface) (a1c0 : Int) (ha0 : LL L_TInterface a0) : M.slices_IndexFunc_api_Interface_api_Interface__model_Address_1 a0 a1c0 = some (S.slices_IndexFunc_api_Interface_api_Interface__model_Address_1 a0 a1c0) := by
  have hM := maxLen_eq
  unfold M.slices_IndexFunc_api_Interface_api_Interface__model_Address_1 S.slices_IndexFunc_api_Interface_api_Interface__model_Address_1
  refine s_bind (s_slices_IndexFunc_api_Interface_api_Interface__model_Address_1_l1 a0 a1c0 ha0 0) (fun y4 hey4 => ?_)
  refine s_elim (fun _ hl => ?_) (fun y6 hly6 => ?_)
  · rfl
  · rfl
noncomputable def S.model_Address (a0 : TRouter) (a1 : Int) : Int :=
  letS (S.slices_IndexFunc_api_Interface_api_Interface__model_Address_1 a0.fInterfaces a1) (fun r1 => r1)
theorem s_model_Address (a0 : TRouter) (a1 : Int) (ha0 : L_TRouter a0) : M.model_Address a0 a1 = some (S.model_Address a0 a1) := by
  have hM := maxLen_eq
  unfold M.model_Address S.model_Address
  refine s_bind (s_slices_IndexFunc_api_Interface_api_Interface__model_Address_1 a0.fInterfaces a1 (L_TRouter.fInterfaces ha0)) (fun r1 her1 => ?_)
  rfl
noncomputable def S.model_rightStatic_k1 (i1 : Nat) (s1 : Int) (p3 : Int) : Int ⊕ Int :=
  .inl (p3)
theorem s_model_rightStatic_k1 (i1 : Nat) (s1 : Int) (p3 : Int) (hi1 : i1 < 3) : M.model_rightStatic_k1 (s1, (i1 : Int)) p3 = some (rdT (fun (i : Nat) (s1 : Int) => (s1, (i : Int))) (S.model_rightStatic_k1 i1 s1 p3) i1) := by
  have hM := maxLen_eq
  have hni1 : 3 ≤ maxLen := (by omega)
  unfold M.model_rightStatic_k1 S.model_rightStatic_k1
  try simp only [Int.toNat_natCast]
  rw [up_i64 (by omega)]
  rfl
noncomputable def S.model_rightStatic_l1 (a1 : TStaticRoute) (i1 : Nat) (s1 : Int) : Int ⊕ Int :=
  bif ([a1.fNext != 0, !strEq a1.fIface (⟨#[]⟩ : ByteArray), a1.fDiscard] : List Bool).getD i1 default then (S.model_rightStatic_k1 i1 s1 (wr .i64 (s1 + 1))) else (S.model_rightStatic_k1 i1 s1 s1)
theorem s_model_rightStatic_l1 (a1 : TStaticRoute) (ha1 : L_TStaticRoute a1) (i0 : Nat) (s0 : Int) : loopM (M.model_rightStatic_l1 a1) ((fun (i : Nat) (s1 : Int) => (s1, (i : Int))) i0 s0) = some (runT (S.model_rightStatic_l1 a1) (fun s1 => s1) i0 (3 - i0) s0) := by
  have hM := maxLen_eq
  have hni1 : 3 ≤ maxLen := (by omega)
  refine loop_runT (n := 3) (mk := (fun (i : Nat) (s1 : Int) => (s1, (i : Int)))) (fun i1 s1 hi1 => ?_) (fun m s1 hm => ?_) i0 s0
  · unfold M.model_rightStatic_l1 S.model_rightStatic_l1
    try simp only [Int.toNat_natCast]
    refine s_then (dt (by omega)) ?_
    refine s_gd (all_c (dt (by omega)) (all_c (dt (by simp; omega)) all_n)) ?_
    refine s_ifT (fun hb1 => ?_) (fun hb1 => ?_)
    · exact s_model_rightStatic_k1 i1 s1 (wr .i64 (s1 + 1)) hi1
    · exact s_model_rightStatic_k1 i1 s1 s1 hi1
  · unfold M.model_rightStatic_l1
    try simp only [Int.toNat_natCast]
    exact s_else (decide_eq_false (by omega)) rfl
noncomputable def S.model_rightStatic (a0 : TRouter) (a1 : TStaticRoute) : Bool :=
  letS (runT (S.model_rightStatic_l1 a1) (fun s1 => s1) 0 3 (0)) (fun y4 => letS (S.addr_Valid a1.fPrefix) (fun r5 => letS (bif ((r5 && (y4 == 1)) && !(a1.fNext == 0)) then S.model_Address a0 a1.fNext else default) (fun r6 => letS (bif ((r5 && (y4 == 1)) && ((a1.fNext == 0) || (decide (r6 < 0)))) then S.model_within a1.fAdmin 1 255 else default) (fun r7 => letS (bif (((r5 && (y4 == 1)) && ((a1.fNext == 0) || (decide (r6 < 0)))) && r7) then S.model_within a1.fTag 0 65535 else default) (fun r8 => (((r5 && (y4 == 1)) && ((a1.fNext == 0) || (decide (r6 < 0)))) && r7) && r8)))))
theorem s_model_rightStatic (a0 : TRouter) (a1 : TStaticRoute) (ha0 : L_TRouter a0) (ha1 : L_TStaticRoute a1) : M.model_rightStatic a0 a1 = some (S.model_rightStatic a0 a1) := by
  have hM := maxLen_eq
  unfold M.model_rightStatic S.model_rightStatic
  refine s_bind (s_model_rightStatic_l1 a1 ha1 0 (0)) (fun y4 hey4 => ?_)
  refine s_bind (s_addr_Valid a1.fPrefix) (fun r5 her5 => ?_)
  refine s_bind (s_gc fun hg => (s_model_Address a0 a1.fNext ha0)) (fun r6 her6 => ?_)
  refine s_bind (s_gc fun hg => (s_model_within a1.fAdmin 1 255)) (fun r7 her7 => ?_)
  refine s_bind (s_gc fun hg => (s_model_within a1.fTag 0 65535)) (fun r8 her8 => ?_)
  rfl
noncomputable def S.model_checkStatics_l2 (a0 : TRouter) (i1 : Nat) (i5 : Nat) : Option (Unit ⊕ Int) :=
  bif (((((((a0.fStatics.drop 0).take (i1 - 0)).getD i5 default).fPrefix).fAddr) == (((a0.fStatics.getD i1 default).fPrefix).fAddr)) && (((((((a0.fStatics.drop 0).take (i1 - 0)).getD i5 default).fPrefix).fLen) == (((a0.fStatics.getD i1 default).fPrefix).fLen)) && true)) && (((((a0.fStatics.drop 0).take (i1 - 0)).getD i5 default).fAdmin) == ((a0.fStatics.getD i1 default).fAdmin)) then (some (.inr 6)) else none
theorem s_model_checkStatics_l2 (a0 : TRouter) (i1 : Nat) (ha0 : L_TRouter a0) (hi1 : i1 < a0.fStatics.length) (i0 : Nat) : loopM (M.model_checkStatics_l2 a0 (i1 : Int)) (i0 : Int) = some (runN (S.model_checkStatics_l2 a0 i1) (.inl ()) i0 (i1 - i0)) := by
  have hM := maxLen_eq
  have hni1 : a0.fStatics.length ≤ maxLen := (L_TRouter.fStatics ha0).1
  have hni5 : i1 ≤ maxLen := (by omega)
  refine loop_runN (n := i1) (fun i5 hi5 => ?_) (fun m hm => ?_) i0
  · unfold M.model_checkStatics_l2 S.model_checkStatics_l2
    try simp only [Int.toNat_natCast]
    refine s_then (dt (by omega)) ?_
    refine s_gd (all_c (dt (by omega)) (all_c (dt (by simp; omega)) all_n)) ?_
    refine s_ifN (fun hb6 => ?_) (fun hb6 => ?_)
    · exact s_out
    · exact s_up (by omega)
  · unfold M.model_checkStatics_l2
    try simp only [Int.toNat_natCast]
    exact s_else (decide_eq_false (by omega)) rfl
noncomputable def S.model_checkStatics_k1 (a0 : TRouter) (i1 : Nat) (_p4 : Unit) : Option (Unit ⊕ Int) :=
  letS (runN (S.model_checkStatics_l2 a0 i1) (.inl ()) 0 i1) (fun y7 => Sum.elim (fun _ => none) (fun y9 => some (.inr y9)) y7)
theorem s_model_checkStatics_k1 (a0 : TRouter) (i1 : Nat) (_p4 : Unit) (ha0 : L_TRouter a0) (hi1 : i1 < a0.fStatics.length) : M.model_checkStatics_k1 a0 (i1 : Int) _p4 = some (rdN (S.model_checkStatics_k1 a0 i1 _p4) i1) := by
  have hM := maxLen_eq
  have hni1 : a0.fStatics.length ≤ maxLen := (L_TRouter.fStatics ha0).1
  unfold M.model_checkStatics_k1 S.model_checkStatics_k1
  try simp only [Int.toNat_natCast]
  refine s_gd (all_c (dt (by omega)) (all_c (dt (by omega)) all_n)) ?_
  refine s_bindN (s_model_checkStatics_l2 a0 i1 ha0 hi1 0) (fun y7 hey7 => ?_)
  refine s_elimN (fun _ hl => ?_) (fun y9 hly9 => ?_)
  · exact s_up (by omega)
  · exact s_out
noncomputable def S.model_checkStatics_l1 (a0 : TRouter) (i1 : Nat) : Option (Unit ⊕ Int) :=
  letS (S.model_rightStatic a0 (a0.fStatics.getD i1 default)) (fun r3 => bif !r3 then (some (.inr 1)) else (bif !strEq ((a0.fStatics.getD i1 default).fIface) (⟨#[]⟩ : ByteArray) then (letS (S.model_Interface a0 ((a0.fStatics.getD i1 default).fIface)) (fun r10 => bif decide (r10 < 0) then (some (.inr 5)) else (bif ((a0.fInterfaces.getD r10.toNat default).fLen) == 0 then (some (.inr 1)) else (S.model_checkStatics_k1 a0 i1 ())))) else (S.model_checkStatics_k1 a0 i1 ())))
theorem s_model_checkStatics_l1 (a0 : TRouter) (ha0 : L_TRouter a0) (i0 : Nat) : loopM (M.model_checkStatics_l1 a0) (i0 : Int) = some (runN (S.model_checkStatics_l1 a0) (.inl ()) i0 (a0.fStatics.length - i0)) := by
  have hM := maxLen_eq
  have hni1 : a0.fStatics.length ≤ maxLen := (L_TRouter.fStatics ha0).1
  refine loop_runN (n := a0.fStatics.length) (fun i1 hi1 => ?_) (fun m hm => ?_) i0
  · unfold M.model_checkStatics_l1 S.model_checkStatics_l1
    try simp only [Int.toNat_natCast]
    refine s_then (dt (by omega)) ?_
    refine s_gd (all_c (dt (by omega)) (all_c (dt (by omega)) all_n)) ?_
    refine s_bindN (s_model_rightStatic a0 (a0.fStatics.getD i1 default) ha0 (LL.getD (L_TRouter.fStatics ha0) L_TStaticRoute.dflt i1)) (fun r3 her3 => ?_)
    refine s_ifN (fun hb2 => ?_) (fun hb2 => ?_)
    · exact s_out
    · refine s_ifN (fun hb3 => ?_) (fun hb3 => ?_)
      · refine s_bindN (s_model_Interface a0 ((a0.fStatics.getD i1 default).fIface) ha0 (L_TStaticRoute.fIface (LL.getD (L_TRouter.fStatics ha0) L_TStaticRoute.dflt i1))) (fun r10 her10 => ?_)
        have hrr10 := rng_model_Interface a0 ((a0.fStatics.getD i1 default).fIface)
        refine s_ifN (fun hb4 => ?_) (fun hb4 => ?_)
        · exact s_out
        · refine s_gd (all_c (dt (by first | omega | (simp; omega) | (simp at *; omega))) (all_c (dt (by first | omega | (simp; omega) | (simp at *; omega))) all_n)) ?_
          refine s_ifN (fun hb5 => ?_) (fun hb5 => ?_)
          · exact s_out
          · exact s_model_checkStatics_k1 a0 i1 () ha0 hi1
      · exact s_model_checkStatics_k1 a0 i1 () ha0 hi1
  · unfold M.model_checkStatics_l1
    try simp only [Int.toNat_natCast]
    exact s_else (decide_eq_false (by omega)) rfl
noncomputable def S.model_checkStatics (a0 : TRouter) : Int :=
  bif decide ((a0.fStatics.length : Int) > 16) then 7 else (letS (runN (S.model_checkStatics_l1 a0) (.inl ()) 0 a0.fStatics.length) (fun y11 => Sum.elim (fun _ => 0) (fun y13 => y13) y11))
theorem s_model_checkStatics (a0 : TRouter) (ha0 : L_TRouter a0) : M.model_checkStatics a0 = some (S.model_checkStatics a0) := by
  have hM := maxLen_eq
  unfold M.model_checkStatics S.model_checkStatics
  refine s_if (fun hb1 => ?_) (fun hb1 => ?_)
  · rfl
  · refine s_bind (s_model_checkStatics_l1 a0 ha0 0) (fun y11 hey11 => ?_)
    refine s_elim (fun _ hl => ?_) (fun y13 hly13 => ?_)
    · rfl
    · rfl
noncomputable def S.model_checkRedist_l2 (a1 : List TRedist) (i1 : Nat) (i8 : Nat) : Option (Unit ⊕ Int) :=
  bif ((((a1.drop 0).take (i1 - 0)).getD i8 default).fFrom) == ((a1.getD i1 default).fFrom) then (some (.inr 4)) else none
theorem s_model_checkRedist_l2 (a1 : List TRedist) (i1 : Nat) (ha1 : LL L_TRedist a1) (hi1 : i1 < a1.length) (i0 : Nat) : loopM (M.model_checkRedist_l2 a1 (i1 : Int)) (i0 : Int) = some (runN (S.model_checkRedist_l2 a1 i1) (.inl ()) i0 (i1 - i0)) := by
  have hM := maxLen_eq
  have hni1 : a1.length ≤ maxLen := ha1.1
  have hni8 : i1 ≤ maxLen := (by omega)
  refine loop_runN (n := i1) (fun i8 hi8 => ?_) (fun m hm => ?_) i0
  · unfold M.model_checkRedist_l2 S.model_checkRedist_l2
    try simp only [Int.toNat_natCast]
    refine s_then (dt (by omega)) ?_
    refine s_gd (all_c (dt (by omega)) (all_c (dt (by simp; omega)) all_n)) ?_
    refine s_ifN (fun hb4 => ?_) (fun hb4 => ?_)
    · exact s_out
    · exact s_up (by omega)
  · unfold M.model_checkRedist_l2
    try simp only [Int.toNat_natCast]
    exact s_else (decide_eq_false (by omega)) rfl
noncomputable def S.model_checkRedist_l1 (a0 : TRouter) (a1 : List TRedist) (a2 : Int) (a3 : Int) (a4 : Int) (a5 : Int) (i1 : Nat) : Option (Unit ⊕ Int) :=
  letS (S.model_within ((a1.getD i1 default).fFrom) 1 5) (fun r3 => letS (bif (!((!r3) || (((a1.getD i1 default).fFrom) == a2))) then S.model_within ((a1.getD i1 default).fMetric) a3 a4 else default) (fun r4 => letS (bif (!(((!r3) || (((a1.getD i1 default).fFrom) == a2)) || (!r4))) then S.model_within ((a1.getD i1 default).fTag) 0 65535 else default) (fun r5 => letS (bif (!((((!r3) || (((a1.getD i1 default).fFrom) == a2)) || (!r4)) || (!r5))) then S.model_within ((a1.getD i1 default).fType) (if a5 < 1 then a5 else 1) a5 else default) (fun r6 => bif ((((!r3) || (((a1.getD i1 default).fFrom) == a2)) || (!r4)) || (!r5)) || (!r6) then (some (.inr 1)) else (letS (bif (!strEq ((a1.getD i1 default).fMap) (⟨#[]⟩ : ByteArray)) then S.model_RouteMap a0 ((a1.getD i1 default).fMap) else default) (fun r7 => bif (!strEq ((a1.getD i1 default).fMap) (⟨#[]⟩ : ByteArray)) && (decide (r7 < 0)) then (some (.inr 5)) else (letS (runN (S.model_checkRedist_l2 a1 i1) (.inl ()) 0 i1) (fun y10 => Sum.elim (fun _ => none) (fun y12 => some (.inr y12)) y10))))))))
theorem s_model_checkRedist_l1 (a0 : TRouter) (a1 : List TRedist) (a2 : Int) (a3 : Int) (a4 : Int) (a5 : Int) (ha0 : L_TRouter a0) (ha1 : LL L_TRedist a1) (i0 : Nat) : loopM (M.model_checkRedist_l1 a0 a1 a2 a3 a4 a5) (i0 : Int) = some (runN (S.model_checkRedist_l1 a0 a1 a2 a3 a4 a5) (.inl ()) i0 (a1.length - i0)) := by
  have hM := maxLen_eq
  have hni1 : a1.length ≤ maxLen := ha1.1
  refine loop_runN (n := a1.length) (fun i1 hi1 => ?_) (fun m hm => ?_) i0
  · unfold M.model_checkRedist_l1 S.model_checkRedist_l1
    try simp only [Int.toNat_natCast]
    refine s_then (dt (by omega)) ?_
    refine s_gd (all_c (dt (by omega)) (all_c (dt (by omega)) all_n)) ?_
    refine s_bindN (s_model_within ((a1.getD i1 default).fFrom) 1 5) (fun r3 her3 => ?_)
    refine s_bindN (s_gc fun hg => (s_model_within ((a1.getD i1 default).fMetric) a3 a4)) (fun r4 her4 => ?_)
    refine s_bindN (s_gc fun hg => (s_model_within ((a1.getD i1 default).fTag) 0 65535)) (fun r5 her5 => ?_)
    refine s_bindN (s_gc fun hg => (s_model_within ((a1.getD i1 default).fType) (if a5 < 1 then a5 else 1) a5)) (fun r6 her6 => ?_)
    refine s_ifN (fun hb2 => ?_) (fun hb2 => ?_)
    · exact s_out
    · refine s_bindN (s_gc fun hg => (s_model_RouteMap a0 ((a1.getD i1 default).fMap) ha0 (L_TRedist.fMap (LL.getD ha1 L_TRedist.dflt i1)))) (fun r7 her7 => ?_)
      refine s_ifN (fun hb3 => ?_) (fun hb3 => ?_)
      · exact s_out
      · refine s_gd (all_c (dt (by omega)) (all_c (dt (by omega)) all_n)) ?_
        refine s_bindN (s_model_checkRedist_l2 a1 i1 ha1 hi1 0) (fun y10 hey10 => ?_)
        refine s_elimN (fun _ hl => ?_) (fun y12 hly12 => ?_)
        · exact s_up (by omega)
        · exact s_out
  · unfold M.model_checkRedist_l1
    try simp only [Int.toNat_natCast]
    exact s_else (decide_eq_false (by omega)) rfl
noncomputable def S.model_checkRedist (a0 : TRouter) (a1 : List TRedist) (a2 : Int) (a3 : Int) (a4 : Int) (a5 : Int) : Int :=
  bif decide ((a1.length : Int) > 4) then 7 else (letS (runN (S.model_checkRedist_l1 a0 a1 a2 a3 a4 a5) (.inl ()) 0 a1.length) (fun y13 => Sum.elim (fun _ => 0) (fun y15 => y15) y13))
theorem s_model_checkRedist (a0 : TRouter) (a1 : List TRedist) (a2 : Int) (a3 : Int) (a4 : Int) (a5 : Int) (ha0 : L_TRouter a0) (ha1 : LL L_TRedist a1) : M.model_checkRedist a0 a1 a2 a3 a4 a5 = some (S.model_checkRedist a0 a1 a2 a3 a4 a5) := by
  have hM := maxLen_eq
  unfold M.model_checkRedist S.model_checkRedist
  refine s_if (fun hb1 => ?_) (fun hb1 => ?_)
  · rfl
  · refine s_bind (s_model_checkRedist_l1 a0 a1 a2 a3 a4 a5 ha0 ha1 0) (fun y13 hey13 => ?_)
    refine s_elim (fun _ hl => ?_) (fun y15 hly15 => ?_)
    · rfl
    · rfl
noncomputable def S.model_checkLinkState_l2 (a0 : TRouter) (i2 : Nat) (i6 : Nat) : Option (Unit ⊕ Int) :=
  letS (bif (((((a0.fLS.fRanges.drop 0).take (i2 - 0)).getD i6 default).fArea) == ((a0.fLS.fRanges.getD i2 default).fArea)) then S.addr_Overlaps ((((a0.fLS.fRanges.drop 0).take (i2 - 0)).getD i6 default).fPrefix) ((a0.fLS.fRanges.getD i2 default).fPrefix) else default) (fun r8 => bif (((((a0.fLS.fRanges.drop 0).take (i2 - 0)).getD i6 default).fArea) == ((a0.fLS.fRanges.getD i2 default).fArea)) && r8 then (some (.inr 6)) else none)
theorem s_model_checkLinkState_l2 (a0 : TRouter) (i2 : Nat) (ha0 : L_TRouter a0) (hi2 : i2 < a0.fLS.fRanges.length) (i0 : Nat) : loopM (M.model_checkLinkState_l2 a0 (i2 : Int)) (i0 : Int) = some (runN (S.model_checkLinkState_l2 a0 i2) (.inl ()) i0 (i2 - i0)) := by
  have hM := maxLen_eq
  have hni2 : a0.fLS.fRanges.length ≤ maxLen := (L_TLinkState.fRanges (L_TRouter.fLS ha0))
  have hni6 : i2 ≤ maxLen := (by omega)
  refine loop_runN (n := i2) (fun i6 hi6 => ?_) (fun m hm => ?_) i0
  · unfold M.model_checkLinkState_l2 S.model_checkLinkState_l2
    try simp only [Int.toNat_natCast]
    refine s_then (dt (by omega)) ?_
    refine s_gd (all_c (dt (by omega)) (all_c (dt (by simp; omega)) all_n)) ?_
    refine s_bindN (s_gc fun hg => (s_addr_Overlaps ((((a0.fLS.fRanges.drop 0).take (i2 - 0)).getD i6 default).fPrefix) ((a0.fLS.fRanges.getD i2 default).fPrefix))) (fun r8 her8 => ?_)
    refine s_ifN (fun hb6 => ?_) (fun hb6 => ?_)
    · exact s_out
    · exact s_up (by omega)
  · unfold M.model_checkLinkState_l2
    try simp only [Int.toNat_natCast]
    exact s_else (decide_eq_false (by omega)) rfl
noncomputable def S.model_checkLinkState_l1 (a0 : TRouter) (i2 : Nat) : Option (Unit ⊕ Int) :=
  letS (S.model_within ((a0.fLS.fRanges.getD i2 default).fArea) 0 255) (fun r4 => letS (bif (!(!r4)) then S.addr_Valid ((a0.fLS.fRanges.getD i2 default).fPrefix) else default) (fun r5 => bif (!r4) || (!r5) then (some (.inr 1)) else (letS (runN (S.model_checkLinkState_l2 a0 i2) (.inl ()) 0 i2) (fun y9 => Sum.elim (fun _ => none) (fun y11 => some (.inr y11)) y9))))
theorem s_model_checkLinkState_l1 (a0 : TRouter) (ha0 : L_TRouter a0) (i0 : Nat) : loopM (M.model_checkLinkState_l1 a0) (i0 : Int) = some (runN (S.model_checkLinkState_l1 a0) (.inl ()) i0 (a0.fLS.fRanges.length - i0)) := by
  have hM := maxLen_eq
  have hni2 : a0.fLS.fRanges.length ≤ maxLen := (L_TLinkState.fRanges (L_TRouter.fLS ha0))
  refine loop_runN (n := a0.fLS.fRanges.length) (fun i2 hi2 => ?_) (fun m hm => ?_) i0
  · unfold M.model_checkLinkState_l1 S.model_checkLinkState_l1
    try simp only [Int.toNat_natCast]
    refine s_then (dt (by omega)) ?_
    refine s_gd (all_c (dt (by omega)) (all_c (dt (by omega)) all_n)) ?_
    refine s_bindN (s_model_within ((a0.fLS.fRanges.getD i2 default).fArea) 0 255) (fun r4 her4 => ?_)
    refine s_bindN (s_gc fun hg => (s_addr_Valid ((a0.fLS.fRanges.getD i2 default).fPrefix))) (fun r5 her5 => ?_)
    refine s_ifN (fun hb5 => ?_) (fun hb5 => ?_)
    · exact s_out
    · refine s_gd (all_c (dt (by omega)) (all_c (dt (by omega)) all_n)) ?_
      refine s_bindN (s_model_checkLinkState_l2 a0 i2 ha0 hi2 0) (fun y9 hey9 => ?_)
      refine s_elimN (fun _ hl => ?_) (fun y11 hly11 => ?_)
      · exact s_up (by omega)
      · exact s_out
  · unfold M.model_checkLinkState_l1
    try simp only [Int.toNat_natCast]
    exact s_else (decide_eq_false (by omega)) rfl
noncomputable def S.model_checkLinkState (a0 : TRouter) : Int :=
  bif !a0.fLS.fOn then (bif ((a0.fLS.fAdmin != 0) || (decide ((a0.fLS.fRanges.length : Int) > 0))) || (decide ((a0.fLS.fRedist.length : Int) > 0)) then 1 else 0) else (letS (S.model_within a0.fLS.fAdmin 1 255) (fun r1 => bif !r1 then 1 else (bif decide ((a0.fLS.fRanges.length : Int) > 4) then 7 else (letS (runN (S.model_checkLinkState_l1 a0) (.inl ()) 0 a0.fLS.fRanges.length) (fun y12 => Sum.elim (fun _ => letS (S.model_checkRedist a0 a0.fLS.fRedist 3 0 16777215 2) (fun r15 => r15)) (fun y14 => y14) y12)))))
theorem s_model_checkLinkState (a0 : TRouter) (ha0 : L_TRouter a0) : M.model_checkLinkState a0 = some (S.model_checkLinkState a0) := by
  have hM := maxLen_eq
  unfold M.model_checkLinkState S.model_checkLinkState
  refine s_if (fun hb1 => ?_) (fun hb1 => ?_)
  · refine s_if (fun hb2 => ?_) (fun hb2 => ?_)
    · rfl
    · rfl
  · refine s_bind (s_model_within a0.fLS.fAdmin 1 255) (fun r1 her1 => ?_)
    refine s_if (fun hb3 => ?_) (fun hb3 => ?_)
    · rfl
    · refine s_if (fun hb4 => ?_) (fun hb4 => ?_)
      · rfl
      · refine s_bind (s_model_checkLinkState_l1 a0 ha0 0) (fun y12 hey12 => ?_)
        refine s_elim (fun _ hl => ?_) (fun y14 hly14 => ?_)
        · refine s_bind (s_model_checkRedist a0 a0.fLS.fRedist 3 0 16777215 2 ha0 (L_TLinkState.fRedist (L_TRouter.fLS ha0))) (fun r15 her15 => ?_)
          rfl
        · rfl
noncomputable def S.model_checkDistanceVector (a0 : TRouter) : Int :=
  bif !a0.fDV.fOn then (bif (((a0.fDV.fAdmin != 0) || (!strEq a0.fDV.fIn (⟨#[]⟩ : ByteArray))) || (!strEq a0.fDV.fOut (⟨#[]⟩ : ByteArray))) || (decide ((a0.fDV.fRedist.length : Int) > 0)) then 1 else 0) else (letS (S.model_within a0.fDV.fAdmin 1 255) (fun r1 => bif !r1 then 1 else (letS (bif (!strEq a0.fDV.fIn (⟨#[]⟩ : ByteArray)) then S.model_PrefixList a0 a0.fDV.fIn else default) (fun r2 => letS (bif ((!((!strEq a0.fDV.fIn (⟨#[]⟩ : ByteArray)) && (decide (r2 < 0)))) && (!strEq a0.fDV.fOut (⟨#[]⟩ : ByteArray))) then S.model_PrefixList a0 a0.fDV.fOut else default) (fun r3 => bif ((!strEq a0.fDV.fIn (⟨#[]⟩ : ByteArray)) && (decide (r2 < 0))) || ((!strEq a0.fDV.fOut (⟨#[]⟩ : ByteArray)) && (decide (r3 < 0))) then 5 else (letS (S.model_checkRedist a0 a0.fDV.fRedist 4 1 15 0) (fun r4 => r4)))))))
theorem s_model_checkDistanceVector (a0 : TRouter) (ha0 : L_TRouter a0) : M.model_checkDistanceVector a0 = some (S.model_checkDistanceVector a0) := by
  have hM := maxLen_eq
  unfold M.model_checkDistanceVector S.model_checkDistanceVector
  refine s_if (fun hb1 => ?_) (fun hb1 => ?_)
  · refine s_if (fun hb2 => ?_) (fun hb2 => ?_)
    · rfl
    · rfl
  · refine s_bind (s_model_within a0.fDV.fAdmin 1 255) (fun r1 her1 => ?_)
    refine s_if (fun hb3 => ?_) (fun hb3 => ?_)
    · rfl
    · refine s_bind (s_gc fun hg => (s_model_PrefixList a0 a0.fDV.fIn ha0 (L_TDistanceVector.fIn (L_TRouter.fDV ha0)))) (fun r2 her2 => ?_)
      refine s_bind (s_gc fun hg => (s_model_PrefixList a0 a0.fDV.fOut ha0 (L_TDistanceVector.fOut (L_TRouter.fDV ha0)))) (fun r3 her3 => ?_)
      refine s_if (fun hb4 => ?_) (fun hb4 => ?_)
      · rfl
      · refine s_bind (s_model_checkRedist a0 a0.fDV.fRedist 4 1 15 0 ha0 (L_TDistanceVector.fRedist (L_TRouter.fDV ha0))) (fun r4 her4 => ?_)
        rfl
noncomputable def S.model_checkNeighbors_l2 (a0 : TRouter) (i1 : Nat) (i6 : Nat) : Option (Unit ⊕ Int) :=
  bif ((((a0.fPV.fNeighbors.drop 0).take (i1 - 0)).getD i6 default).fAddr) == ((a0.fPV.fNeighbors.getD i1 default).fAddr) then (some (.inr 4)) else none
theorem s_model_checkNeighbors_l2 (a0 : TRouter) (i1 : Nat) (ha0 : L_TRouter a0) (hi1 : i1 < a0.fPV.fNeighbors.length) (i0 : Nat) : loopM (M.model_checkNeighbors_l2 a0 (i1 : Int)) (i0 : Int) = some (runN (S.model_checkNeighbors_l2 a0 i1) (.inl ()) i0 (i1 - i0)) := by
  have hM := maxLen_eq
  have hni1 : a0.fPV.fNeighbors.length ≤ maxLen := (L_TPathVector.fNeighbors (L_TRouter.fPV ha0)).1
  have hni6 : i1 ≤ maxLen := (by omega)
  refine loop_runN (n := i1) (fun i6 hi6 => ?_) (fun m hm => ?_) i0
  · unfold M.model_checkNeighbors_l2 S.model_checkNeighbors_l2
    try simp only [Int.toNat_natCast]
    refine s_then (dt (by omega)) ?_
    refine s_gd (all_c (dt (by omega)) (all_c (dt (by simp; omega)) all_n)) ?_
    refine s_ifN (fun hb4 => ?_) (fun hb4 => ?_)
    · exact s_out
    · exact s_up (by omega)
  · unfold M.model_checkNeighbors_l2
    try simp only [Int.toNat_natCast]
    exact s_else (decide_eq_false (by omega)) rfl
noncomputable def S.model_checkNeighbors_l1 (a0 : TRouter) (i1 : Nat) : Option (Unit ⊕ Int) :=
  letS (bif (!(((a0.fPV.fNeighbors.getD i1 default).fAddr) == 0)) then S.model_within ((a0.fPV.fNeighbors.getD i1 default).fAS) 1 65535 else default) (fun r3 => bif (((a0.fPV.fNeighbors.getD i1 default).fAddr) == 0) || (!r3) then (some (.inr 1)) else (letS (bif (!strEq ((a0.fPV.fNeighbors.getD i1 default).fIn) (⟨#[]⟩ : ByteArray)) then S.model_RouteMap a0 ((a0.fPV.fNeighbors.getD i1 default).fIn) else default) (fun r4 => letS (bif ((!((!strEq ((a0.fPV.fNeighbors.getD i1 default).fIn) (⟨#[]⟩ : ByteArray)) && (decide (r4 < 0)))) && (!strEq ((a0.fPV.fNeighbors.getD i1 default).fOut) (⟨#[]⟩ : ByteArray))) then S.model_RouteMap a0 ((a0.fPV.fNeighbors.getD i1 default).fOut) else default) (fun r5 => bif ((!strEq ((a0.fPV.fNeighbors.getD i1 default).fIn) (⟨#[]⟩ : ByteArray)) && (decide (r4 < 0))) || ((!strEq ((a0.fPV.fNeighbors.getD i1 default).fOut) (⟨#[]⟩ : ByteArray)) && (decide (r5 < 0))) then (some (.inr 5)) else (letS (runN (S.model_checkNeighbors_l2 a0 i1) (.inl ()) 0 i1) (fun y8 => Sum.elim (fun _ => none) (fun y10 => some (.inr y10)) y8))))))
theorem s_model_checkNeighbors_l1 (a0 : TRouter) (ha0 : L_TRouter a0) (i0 : Nat) : loopM (M.model_checkNeighbors_l1 a0) (i0 : Int) = some (runN (S.model_checkNeighbors_l1 a0) (.inl ()) i0 (a0.fPV.fNeighbors.length - i0)) := by
  have hM := maxLen_eq
  have hni1 : a0.fPV.fNeighbors.length ≤ maxLen := (L_TPathVector.fNeighbors (L_TRouter.fPV ha0)).1
  refine loop_runN (n := a0.fPV.fNeighbors.length) (fun i1 hi1 => ?_) (fun m hm => ?_) i0
  · unfold M.model_checkNeighbors_l1 S.model_checkNeighbors_l1
    try simp only [Int.toNat_natCast]
    refine s_then (dt (by omega)) ?_
    refine s_gd (all_c (dt (by omega)) (all_c (dt (by omega)) all_n)) ?_
    refine s_bindN (s_gc fun hg => (s_model_within ((a0.fPV.fNeighbors.getD i1 default).fAS) 1 65535)) (fun r3 her3 => ?_)
    refine s_ifN (fun hb2 => ?_) (fun hb2 => ?_)
    · exact s_out
    · refine s_bindN (s_gc fun hg => (s_model_RouteMap a0 ((a0.fPV.fNeighbors.getD i1 default).fIn) ha0 (L_TNeighbor.fIn (LL.getD (L_TPathVector.fNeighbors (L_TRouter.fPV ha0)) L_TNeighbor.dflt i1)))) (fun r4 her4 => ?_)
      refine s_bindN (s_gc fun hg => (s_model_RouteMap a0 ((a0.fPV.fNeighbors.getD i1 default).fOut) ha0 (L_TNeighbor.fOut (LL.getD (L_TPathVector.fNeighbors (L_TRouter.fPV ha0)) L_TNeighbor.dflt i1)))) (fun r5 her5 => ?_)
      refine s_ifN (fun hb3 => ?_) (fun hb3 => ?_)
      · exact s_out
      · refine s_gd (all_c (dt (by omega)) (all_c (dt (by omega)) all_n)) ?_
        refine s_bindN (s_model_checkNeighbors_l2 a0 i1 ha0 hi1 0) (fun y8 hey8 => ?_)
        refine s_elimN (fun _ hl => ?_) (fun y10 hly10 => ?_)
        · exact s_up (by omega)
        · exact s_out
  · unfold M.model_checkNeighbors_l1
    try simp only [Int.toNat_natCast]
    exact s_else (decide_eq_false (by omega)) rfl
noncomputable def S.model_checkNeighbors (a0 : TRouter) : Int :=
  bif decide ((a0.fPV.fNeighbors.length : Int) > 8) then 7 else (letS (runN (S.model_checkNeighbors_l1 a0) (.inl ()) 0 a0.fPV.fNeighbors.length) (fun y11 => Sum.elim (fun _ => 0) (fun y13 => y13) y11))
theorem s_model_checkNeighbors (a0 : TRouter) (ha0 : L_TRouter a0) : M.model_checkNeighbors a0 = some (S.model_checkNeighbors a0) := by
  have hM := maxLen_eq
  unfold M.model_checkNeighbors S.model_checkNeighbors
  refine s_if (fun hb1 => ?_) (fun hb1 => ?_)
  · rfl
  · refine s_bind (s_model_checkNeighbors_l1 a0 ha0 0) (fun y11 hey11 => ?_)
    refine s_elim (fun _ hl => ?_) (fun y13 hly13 => ?_)
    · rfl
    · rfl
noncomputable def S.slices_Index_api_Prefix_api_Prefix_l1 (a0 : List TPrefix) (a1 : TPrefix) (i1 : Nat) : Option (Unit ⊕ Int) :=
  bif ((a1.fAddr == ((a0.getD i1 default).fAddr)) && ((a1.fLen == ((a0.getD i1 default).fLen)) && true)) then (some (.inr (i1 : Int))) else none
theorem s_slices_Index_api_Prefix_api_Prefix_l1 (a0 : List TPrefix) (a1 : TPrefix) (ha0 : a0.length ≤ maxLen) (i0 : Nat) : loopM (M.slices_Index_api_Prefix_api_Prefix_l1 a0 a1) (i0 : Int) = some (runN (S.slices_Index_api_Prefix_api_Prefix_l1 a0 a1) (.inl ()) i0 (a0.length - i0)) := by
  have hM := maxLen_eq
  have hni1 : a0.length ≤ maxLen := ha0
  refine loop_runN (n := a0.length) (fun i1 hi1 => ?_) (fun m hm => ?_) i0
  · unfold M.slices_Index_api_Prefix_api_Prefix_l1 S.slices_Index_api_Prefix_api_Prefix_l1
    try simp only [Int.toNat_natCast]
    refine s_then (dt (by omega)) ?_
    refine s_gd (all_c (dt (by omega)) (all_c (dt (by omega)) all_n)) ?_
    refine s_ifN (fun hb1 => ?_) (fun hb1 => ?_)
    · exact s_out
    · exact s_up (by omega)
  · unfold M.slices_Index_api_Prefix_api_Prefix_l1
    try simp only [Int.toNat_natCast]
    exact s_else (decide_eq_false (by omega)) rfl
noncomputable def S.slices_Index_api_Prefix_api_Prefix (a0 : List TPrefix) (a1 : TPrefix) : Int :=
  letS (runN (S.slices_Index_api_Prefix_api_Prefix_l1 a0 a1) (.inl ()) 0 a0.length) (fun y3 => Sum.elim (fun _ => -1) (fun y5 => y5) y3)
theorem s_slices_Index_api_Prefix_api_Prefix (a0 : List TPrefix) (a1 : TPrefix) (ha0 : a0.length ≤ maxLen) : M.slices_Index_api_Prefix_api_Prefix a0 a1 = some (S.slices_Index_api_Prefix_api_Prefix a0 a1) := by
  have hM := maxLen_eq
  unfold M.slices_Index_api_Prefix_api_Prefix S.slices_Index_api_Prefix_api_Prefix
  refine s_bind (s_slices_Index_api_Prefix_api_Prefix_l1 a0 a1 ha0 0) (fun y3 hey3 => ?_)
  refine s_elim (fun _ hl => ?_) (fun y5 hly5 => ?_)
  · rfl
  · rfl
noncomputable def S.slices_Contains_api_Prefix_api_Prefix (a0 : List TPrefix) (a1 : TPrefix) : Bool :=
  letS (S.slices_Index_api_Prefix_api_Prefix a0 a1) (fun r1 => decide (r1 ≥ 0))
theorem s_slices_Contains_api_Prefix_api_Prefix (a0 : List TPrefix) (a1 : TPrefix) (ha0 : a0.length ≤ maxLen) : M.slices_Contains_api_Prefix_api_Prefix a0 a1 = some (S.slices_Contains_api_Prefix_api_Prefix a0 a1) := by
  have hM := maxLen_eq
  unfold M.slices_Contains_api_Prefix_api_Prefix S.slices_Contains_api_Prefix_api_Prefix
  refine s_bind (s_slices_Index_api_Prefix_api_Prefix a0 a1 ha0) (fun r1 her1 => ?_)
  rfl
noncomputable def S.model_checkOrigins_l1 (a0 : TPathVector) (i1 : Nat) : Option (Unit ⊕ Int) :=
  letS (S.addr_Valid (a0.fNetworks.getD i1 default)) (fun r3 => bif !r3 then (some (.inr 1)) else (letS (S.slices_Contains_api_Prefix_api_Prefix ((a0.fNetworks.drop 0).take (i1 - 0)) (a0.fNetworks.getD i1 default)) (fun r4 => bif r4 then (some (.inr 4)) else none)))
theorem s_model_checkOrigins_l1 (a0 : TPathVector) (ha0 : L_TPathVector a0) (i0 : Nat) : loopM (M.model_checkOrigins_l1 a0) (i0 : Int) = some (runN (S.model_checkOrigins_l1 a0) (.inl ()) i0 (a0.fNetworks.length - i0)) := by
  have hM := maxLen_eq
  have hni1 : a0.fNetworks.length ≤ maxLen := (L_TPathVector.fNetworks ha0)
  refine loop_runN (n := a0.fNetworks.length) (fun i1 hi1 => ?_) (fun m hm => ?_) i0
  · unfold M.model_checkOrigins_l1 S.model_checkOrigins_l1
    try simp only [Int.toNat_natCast]
    refine s_then (dt (by omega)) ?_
    refine s_gd (all_c (dt (by omega)) (all_c (dt (by omega)) all_n)) ?_
    refine s_bindN (s_addr_Valid (a0.fNetworks.getD i1 default)) (fun r3 her3 => ?_)
    refine s_ifN (fun hb2 => ?_) (fun hb2 => ?_)
    · exact s_out
    · refine s_bindN (s_slices_Contains_api_Prefix_api_Prefix ((a0.fNetworks.drop 0).take (i1 - 0)) (a0.fNetworks.getD i1 default) (len_take (len_drop (L_TPathVector.fNetworks ha0)))) (fun r4 her4 => ?_)
      refine s_gd (all_c (dt (by omega)) (all_c (dt (by omega)) all_n)) ?_
      refine s_ifN (fun hb3 => ?_) (fun hb3 => ?_)
      · exact s_out
      · exact s_up (by omega)
  · unfold M.model_checkOrigins_l1
    try simp only [Int.toNat_natCast]
    exact s_else (decide_eq_false (by omega)) rfl
noncomputable def S.model_checkOrigins_l3 (a0 : TPathVector) (i8 : Nat) (i11 : Nat) : Option (Unit ⊕ Int) :=
  bif (((((((a0.fAggregates.drop 0).take (i8 - 0)).getD i11 default).fPrefix).fAddr) == (((a0.fAggregates.getD i8 default).fPrefix).fAddr)) && (((((((a0.fAggregates.drop 0).take (i8 - 0)).getD i11 default).fPrefix).fLen) == (((a0.fAggregates.getD i8 default).fPrefix).fLen)) && true)) then (some (.inr 4)) else none
theorem s_model_checkOrigins_l3 (a0 : TPathVector) (i8 : Nat) (ha0 : L_TPathVector a0) (hi8 : i8 < a0.fAggregates.length) (i0 : Nat) : loopM (M.model_checkOrigins_l3 a0 (i8 : Int)) (i0 : Int) = some (runN (S.model_checkOrigins_l3 a0 i8) (.inl ()) i0 (i8 - i0)) := by
  have hM := maxLen_eq
  have hni8 : a0.fAggregates.length ≤ maxLen := (L_TPathVector.fAggregates ha0)
  have hni11 : i8 ≤ maxLen := (by omega)
  refine loop_runN (n := i8) (fun i11 hi11 => ?_) (fun m hm => ?_) i0
  · unfold M.model_checkOrigins_l3 S.model_checkOrigins_l3
    try simp only [Int.toNat_natCast]
    refine s_then (dt (by omega)) ?_
    refine s_gd (all_c (dt (by omega)) (all_c (dt (by simp; omega)) all_n)) ?_
    refine s_ifN (fun hb6 => ?_) (fun hb6 => ?_)
    · exact s_out
    · exact s_up (by omega)
  · unfold M.model_checkOrigins_l3
    try simp only [Int.toNat_natCast]
    exact s_else (decide_eq_false (by omega)) rfl
noncomputable def S.model_checkOrigins_l2 (a0 : TPathVector) (i8 : Nat) : Option (Unit ⊕ Int) :=
  letS (S.addr_Valid ((a0.fAggregates.getD i8 default).fPrefix)) (fun r10 => bif !r10 then (some (.inr 1)) else (letS (runN (S.model_checkOrigins_l3 a0 i8) (.inl ()) 0 i8) (fun y13 => Sum.elim (fun _ => none) (fun y15 => some (.inr y15)) y13)))
theorem s_model_checkOrigins_l2 (a0 : TPathVector) (ha0 : L_TPathVector a0) (i0 : Nat) : loopM (M.model_checkOrigins_l2 a0) (i0 : Int) = some (runN (S.model_checkOrigins_l2 a0) (.inl ()) i0 (a0.fAggregates.length - i0)) := by
  have hM := maxLen_eq
  have hni8 : a0.fAggregates.length ≤ maxLen := (L_TPathVector.fAggregates ha0)
  refine loop_runN (n := a0.fAggregates.length) (fun i8 hi8 => ?_) (fun m hm => ?_) i0
  · unfold M.model_checkOrigins_l2 S.model_checkOrigins_l2
    try simp only [Int.toNat_natCast]
    refine s_then (dt (by omega)) ?_
    refine s_gd (all_c (dt (by omega)) (all_c (dt (by omega)) all_n)) ?_
    refine s_bindN (s_addr_Valid ((a0.fAggregates.getD i8 default).fPrefix)) (fun r10 her10 => ?_)
    refine s_ifN (fun hb5 => ?_) (fun hb5 => ?_)
    · exact s_out
    · refine s_gd (all_c (dt (by omega)) (all_c (dt (by omega)) all_n)) ?_
      refine s_bindN (s_model_checkOrigins_l3 a0 i8 ha0 hi8 0) (fun y13 hey13 => ?_)
      refine s_elimN (fun _ hl => ?_) (fun y15 hly15 => ?_)
      · exact s_up (by omega)
      · exact s_out
  · unfold M.model_checkOrigins_l2
    try simp only [Int.toNat_natCast]
    exact s_else (decide_eq_false (by omega)) rfl
noncomputable def S.model_checkOrigins_l5 (a0 : TPathVector) (i19 : Nat) (i23 : Nat) : Option (Unit ⊕ Int) :=
  bif (((((((a0.fConditions.drop 0).take (i19 - 0)).getD i23 default).fPrefix).fAddr) == (((a0.fConditions.getD i19 default).fPrefix).fAddr)) && (((((((a0.fConditions.drop 0).take (i19 - 0)).getD i23 default).fPrefix).fLen) == (((a0.fConditions.getD i19 default).fPrefix).fLen)) && true)) then (some (.inr 4)) else none
theorem s_model_checkOrigins_l5 (a0 : TPathVector) (i19 : Nat) (ha0 : L_TPathVector a0) (hi19 : i19 < a0.fConditions.length) (i0 : Nat) : loopM (M.model_checkOrigins_l5 a0 (i19 : Int)) (i0 : Int) = some (runN (S.model_checkOrigins_l5 a0 i19) (.inl ()) i0 (i19 - i0)) := by
  have hM := maxLen_eq
  have hni19 : a0.fConditions.length ≤ maxLen := (L_TPathVector.fConditions ha0)
  have hni23 : i19 ≤ maxLen := (by omega)
  refine loop_runN (n := i19) (fun i23 hi23 => ?_) (fun m hm => ?_) i0
  · unfold M.model_checkOrigins_l5 S.model_checkOrigins_l5
    try simp only [Int.toNat_natCast]
    refine s_then (dt (by omega)) ?_
    refine s_gd (all_c (dt (by omega)) (all_c (dt (by simp; omega)) all_n)) ?_
    refine s_ifN (fun hb10 => ?_) (fun hb10 => ?_)
    · exact s_out
    · exact s_up (by omega)
  · unfold M.model_checkOrigins_l5
    try simp only [Int.toNat_natCast]
    exact s_else (decide_eq_false (by omega)) rfl
noncomputable def S.model_checkOrigins_l4 (a0 : TPathVector) (i19 : Nat) : Option (Unit ⊕ Int) :=
  letS (S.addr_Valid ((a0.fConditions.getD i19 default).fPrefix)) (fun r21 => letS (bif (!(!r21)) then S.addr_Valid ((a0.fConditions.getD i19 default).fIf) else default) (fun r22 => bif (!r21) || (!r22) then (some (.inr 1)) else (bif (((((a0.fConditions.getD i19 default).fPrefix).fAddr) == (((a0.fConditions.getD i19 default).fIf).fAddr)) && (((((a0.fConditions.getD i19 default).fPrefix).fLen) == (((a0.fConditions.getD i19 default).fIf).fLen)) && true)) then (some (.inr 6)) else (letS (runN (S.model_checkOrigins_l5 a0 i19) (.inl ()) 0 i19) (fun y25 => Sum.elim (fun _ => none) (fun y27 => some (.inr y27)) y25)))))
theorem s_model_checkOrigins_l4 (a0 : TPathVector) (ha0 : L_TPathVector a0) (i0 : Nat) : loopM (M.model_checkOrigins_l4 a0) (i0 : Int) = some (runN (S.model_checkOrigins_l4 a0) (.inl ()) i0 (a0.fConditions.length - i0)) := by
  have hM := maxLen_eq
  have hni19 : a0.fConditions.length ≤ maxLen := (L_TPathVector.fConditions ha0)
  refine loop_runN (n := a0.fConditions.length) (fun i19 hi19 => ?_) (fun m hm => ?_) i0
  · unfold M.model_checkOrigins_l4 S.model_checkOrigins_l4
    try simp only [Int.toNat_natCast]
    refine s_then (dt (by omega)) ?_
    refine s_gd (all_c (dt (by omega)) (all_c (dt (by omega)) all_n)) ?_
    refine s_bindN (s_addr_Valid ((a0.fConditions.getD i19 default).fPrefix)) (fun r21 her21 => ?_)
    refine s_bindN (s_gc fun hg => (s_addr_Valid ((a0.fConditions.getD i19 default).fIf))) (fun r22 her22 => ?_)
    refine s_ifN (fun hb8 => ?_) (fun hb8 => ?_)
    · exact s_out
    · refine s_ifN (fun hb9 => ?_) (fun hb9 => ?_)
      · exact s_out
      · refine s_gd (all_c (dt (by omega)) (all_c (dt (by omega)) all_n)) ?_
        refine s_bindN (s_model_checkOrigins_l5 a0 i19 ha0 hi19 0) (fun y25 hey25 => ?_)
        refine s_elimN (fun _ hl => ?_) (fun y27 hly27 => ?_)
        · exact s_up (by omega)
        · exact s_out
  · unfold M.model_checkOrigins_l4
    try simp only [Int.toNat_natCast]
    exact s_else (decide_eq_false (by omega)) rfl
noncomputable def S.model_checkOrigins (a0 : TPathVector) : Int :=
  bif decide ((a0.fNetworks.length : Int) > 8) then 7 else (letS (runN (S.model_checkOrigins_l1 a0) (.inl ()) 0 a0.fNetworks.length) (fun y5 => Sum.elim (fun _ => bif decide ((a0.fAggregates.length : Int) > 8) then 7 else (letS (runN (S.model_checkOrigins_l2 a0) (.inl ()) 0 a0.fAggregates.length) (fun y16 => Sum.elim (fun _ => bif decide ((a0.fConditions.length : Int) > 8) then 7 else (letS (runN (S.model_checkOrigins_l4 a0) (.inl ()) 0 a0.fConditions.length) (fun y28 => Sum.elim (fun _ => 0) (fun y30 => y30) y28))) (fun y18 => y18) y16))) (fun y7 => y7) y5))
theorem s_model_checkOrigins (a0 : TPathVector) (ha0 : L_TPathVector a0) : M.model_checkOrigins a0 = some (S.model_checkOrigins a0) := by
  have hM := maxLen_eq
  unfold M.model_checkOrigins S.model_checkOrigins
  refine s_if (fun hb1 => ?_) (fun hb1 => ?_)
  · rfl
  · refine s_bind (s_model_checkOrigins_l1 a0 ha0 0) (fun y5 hey5 => ?_)
    refine s_elim (fun _ hl => ?_) (fun y7 hly7 => ?_)
    · refine s_if (fun hb4 => ?_) (fun hb4 => ?_)
      · rfl
      · refine s_bind (s_model_checkOrigins_l2 a0 ha0 0) (fun y16 hey16 => ?_)
        refine s_elim (fun _ hl => ?_) (fun y18 hly18 => ?_)
        · refine s_if (fun hb7 => ?_) (fun hb7 => ?_)
          · rfl
          · refine s_bind (s_model_checkOrigins_l4 a0 ha0 0) (fun y28 hey28 => ?_)
            refine s_elim (fun _ hl => ?_) (fun y30 hly30 => ?_)
            · rfl
            · rfl
        · rfl
    · rfl
noncomputable def S.model_checkPathVector (a0 : TRouter) : Int :=
  bif !a0.fPV.fOn then (bif ((((((a0.fPV.fExternal != 0) || (a0.fPV.fInternal != 0)) || (decide ((a0.fPV.fNeighbors.length : Int) > 0))) || (decide ((a0.fPV.fNetworks.length : Int) > 0))) || (decide ((a0.fPV.fAggregates.length : Int) > 0))) || (decide ((a0.fPV.fConditions.length : Int) > 0))) || (decide ((a0.fPV.fRedist.length : Int) > 0)) then 1 else 0) else (letS (bif (!(a0.fAS == 0)) then S.model_within a0.fPV.fExternal 1 255 else default) (fun r1 => letS (bif (!((a0.fAS == 0) || (!r1))) then S.model_within a0.fPV.fInternal 1 255 else default) (fun r2 => bif ((a0.fAS == 0) || (!r1)) || (!r2) then 1 else (letS (S.model_checkNeighbors a0) (fun r3 => bif r3 != 0 then r3 else (letS (S.model_checkOrigins a0.fPV) (fun r4 => bif r4 != 0 then r4 else (letS (S.model_checkRedist a0 a0.fPV.fRedist 5 0 16777215 0) (fun r5 => r5)))))))))
theorem s_model_checkPathVector (a0 : TRouter) (ha0 : L_TRouter a0) : M.model_checkPathVector a0 = some (S.model_checkPathVector a0) := by
  have hM := maxLen_eq
  unfold M.model_checkPathVector S.model_checkPathVector
  refine s_if (fun hb1 => ?_) (fun hb1 => ?_)
  · refine s_if (fun hb2 => ?_) (fun hb2 => ?_)
    · rfl
    · rfl
  · refine s_bind (s_gc fun hg => (s_model_within a0.fPV.fExternal 1 255)) (fun r1 her1 => ?_)
    refine s_bind (s_gc fun hg => (s_model_within a0.fPV.fInternal 1 255)) (fun r2 her2 => ?_)
    refine s_if (fun hb3 => ?_) (fun hb3 => ?_)
    · rfl
    · refine s_bind (s_model_checkNeighbors a0 ha0) (fun r3 her3 => ?_)
      refine s_if (fun hb4 => ?_) (fun hb4 => ?_)
      · rfl
      · refine s_bind (s_model_checkOrigins a0.fPV (L_TRouter.fPV ha0)) (fun r4 her4 => ?_)
        refine s_if (fun hb5 => ?_) (fun hb5 => ?_)
        · rfl
        · refine s_bind (s_model_checkRedist a0 a0.fPV.fRedist 5 0 16777215 0 ha0 (L_TPathVector.fRedist (L_TRouter.fPV ha0))) (fun r5 her5 => ?_)
          rfl
noncomputable def S.model_CheckRouter (a0 : TRouter) : Int :=
  letS (S.scan_Name a0.fName) (fun r1 => bif !r1 then 3 else (letS (S.model_within a0.fAS 0 65535) (fun r2 => bif !r2 then 1 else (letS (S.model_checkInterfaces a0) (fun r3 => bif r3 != 0 then r3 else (letS (S.model_checkPrefixLists a0) (fun r4 => bif r4 != 0 then r4 else (letS (S.model_checkRouteMaps a0) (fun r5 => bif r5 != 0 then r5 else (letS (S.model_checkACLs a0) (fun r6 => bif r6 != 0 then r6 else (letS (S.model_checkNAT a0) (fun r7 => bif r7 != 0 then r7 else (letS (S.model_checkFilters a0) (fun r8 => bif r8 != 0 then r8 else (letS (S.model_checkStatics a0) (fun r9 => bif r9 != 0 then r9 else (letS (S.model_checkLinkState a0) (fun r10 => bif r10 != 0 then r10 else (letS (S.model_checkDistanceVector a0) (fun r11 => bif r11 != 0 then r11 else (letS (S.model_checkPathVector a0) (fun r12 => bif r12 != 0 then r12 else 0)))))))))))))))))))))))
theorem s_model_CheckRouter (a0 : TRouter) (ha0 : L_TRouter a0) : M.model_CheckRouter a0 = some (S.model_CheckRouter a0) := by
  have hM := maxLen_eq
  unfold M.model_CheckRouter S.model_CheckRouter
  refine s_bind (s_scan_Name a0.fName (L_TRouter.fName ha0)) (fun r1 her1 => ?_)
  refine s_if (fun hb1 => ?_) (fun hb1 => ?_)
  · rfl
  · refine s_bind (s_model_within a0.fAS 0 65535) (fun r2 her2 => ?_)
    refine s_if (fun hb2 => ?_) (fun hb2 => ?_)
    · rfl
    · refine s_gd (all_c (dt (by first | omega | (simp; omega) | (simp at *; omega))) (all_c (dt (by first | omega | (simp; omega) | (simp at *; omega))) all_n)) ?_
      refine s_bind (s_model_checkInterfaces a0 ha0) (fun r3 her3 => ?_)
      refine s_if (fun hb3 => ?_) (fun hb3 => ?_)
      · rfl
      · refine s_gd (all_c (dt (by first | omega | (simp; omega) | (simp at *; omega))) (all_c (dt (by first | omega | (simp; omega) | (simp at *; omega))) all_n)) ?_
        refine s_bind (s_model_checkPrefixLists a0 ha0) (fun r4 her4 => ?_)
        refine s_if (fun hb4 => ?_) (fun hb4 => ?_)
        · rfl
        · refine s_gd (all_c (dt (by first | omega | (simp; omega) | (simp at *; omega))) (all_c (dt (by first | omega | (simp; omega) | (simp at *; omega))) all_n)) ?_
          refine s_bind (s_model_checkRouteMaps a0 ha0) (fun r5 her5 => ?_)
          refine s_if (fun hb5 => ?_) (fun hb5 => ?_)
          · rfl
          · refine s_gd (all_c (dt (by first | omega | (simp; omega) | (simp at *; omega))) (all_c (dt (by first | omega | (simp; omega) | (simp at *; omega))) all_n)) ?_
            refine s_bind (s_model_checkACLs a0 ha0) (fun r6 her6 => ?_)
            refine s_if (fun hb6 => ?_) (fun hb6 => ?_)
            · rfl
            · refine s_gd (all_c (dt (by first | omega | (simp; omega) | (simp at *; omega))) (all_c (dt (by first | omega | (simp; omega) | (simp at *; omega))) all_n)) ?_
              refine s_bind (s_model_checkNAT a0 ha0) (fun r7 her7 => ?_)
              refine s_if (fun hb7 => ?_) (fun hb7 => ?_)
              · rfl
              · refine s_gd (all_c (dt (by first | omega | (simp; omega) | (simp at *; omega))) (all_c (dt (by first | omega | (simp; omega) | (simp at *; omega))) all_n)) ?_
                refine s_bind (s_model_checkFilters a0 ha0) (fun r8 her8 => ?_)
                refine s_if (fun hb8 => ?_) (fun hb8 => ?_)
                · rfl
                · refine s_gd (all_c (dt (by first | omega | (simp; omega) | (simp at *; omega))) (all_c (dt (by first | omega | (simp; omega) | (simp at *; omega))) all_n)) ?_
                  refine s_bind (s_model_checkStatics a0 ha0) (fun r9 her9 => ?_)
                  refine s_if (fun hb9 => ?_) (fun hb9 => ?_)
                  · rfl
                  · refine s_gd (all_c (dt (by first | omega | (simp; omega) | (simp at *; omega))) (all_c (dt (by first | omega | (simp; omega) | (simp at *; omega))) all_n)) ?_
                    refine s_bind (s_model_checkLinkState a0 ha0) (fun r10 her10 => ?_)
                    refine s_if (fun hb10 => ?_) (fun hb10 => ?_)
                    · rfl
                    · refine s_gd (all_c (dt (by first | omega | (simp; omega) | (simp at *; omega))) (all_c (dt (by first | omega | (simp; omega) | (simp at *; omega))) all_n)) ?_
                      refine s_bind (s_model_checkDistanceVector a0 ha0) (fun r11 her11 => ?_)
                      refine s_if (fun hb11 => ?_) (fun hb11 => ?_)
                      · rfl
                      · refine s_gd (all_c (dt (by first | omega | (simp; omega) | (simp at *; omega))) (all_c (dt (by first | omega | (simp; omega) | (simp at *; omega))) all_n)) ?_
                        refine s_bind (s_model_checkPathVector a0 ha0) (fun r12 her12 => ?_)
                        refine s_if (fun hb12 => ?_) (fun hb12 => ?_)
                        · rfl
                        · rfl
noncomputable def S.model_shareAddress_1 (a0 : TInterface) (b0 : TRouter) : Bool :=
  letS (bif (a0.fLen != 0) then S.model_Address b0 a0.fAddr else default) (fun r1 => (a0.fLen != 0) && (decide (r1 ≥ 0)))
theorem s_model_shareAddress_1 (a0 : TInterface) (b0 : TRouter) (ha0 : L_TInterface a0) (hb0 : L_TRouter b0) : M.model_shareAddress_1 a0 b0 = some (S.model_shareAddress_1 a0 b0) := by
  have hM := maxLen_eq
  unfold M.model_shareAddress_1 S.model_shareAddress_1
  refine s_bind (s_gc fun hg => (s_model_Address b0 a0.fAddr hb0)) (fun r1 her1 => ?_)
  rfl
noncomputable def S.slices_IndexFunc_api_Interface_api_Interface__model_shareAddress_1_l1 (a0 : List TInterface) (a1c0 : TRouter) (i1 : Nat) : Option (Unit ⊕ Int) :=
  letS (S.model_shareAddress_1 (a0.getD i1 default) a1c0) (fun r3 => bif r3 then (some (.inr (i1 : Int))) else none)
theorem s_slices_IndexFunc_api_Interface_api_Interface__model_shareAddress_1_l1 (a0 : List TInterface) (a1c0 : TRouter) (ha0 : LL L_TInterface a0) (ha1c0 : L_TRouter a1c0) (i0 : Nat) : loopM (M.slices_IndexFunc_api_Interface_api_Interface__model_shareAddress_1_l1 a0 a1c0) (i0 : Int) = some (runN (S.slices_IndexFunc_api_Interface_api_Interface__model_shareAddress_1_l1 a0 a1c0) (.inl ()) i0 (a0.length - i0)) := by
  have hM := maxLen_eq
  have hni1 : a0.length ≤ maxLen := ha0.1
  refine loop_runN (n := a0.length) (fun i1 hi1 => ?_) (fun m hm => ?_) i0
  · unfold M.slices_IndexFunc_api_Interface_api_Interface__model_shareAddress_1_l1 S.slices_IndexFunc_api_Interface_api_Interface__model_shareAddress_1_l1
    try simp only [Int.toNat_natCast]
    refine s_then (dt (by omega)) ?_
    refine s_bindN (s_model_shareAddress_1 (a0.getD i1 default) a1c0 (LL.getD ha0 L_TInterface.dflt i1) ha1c0) (fun r3 her3 => ?_)
    refine s_gd (all_c (dt (by omega)) (all_c (dt (by omega)) all_n)) ?_
    refine s_ifN (fun hb1 => ?_) (fun hb1 => ?_)
    · exact s_out
    · exact s_up (by omega)
  · unfold M.slices_IndexFunc_api_Interface_api_Interface__model_shareAddress_1_l1
    try simp only [Int.toNat_natCast]
    exact s_else (decide_eq_false (by omega)) rfl
noncomputable def S.slices_IndexFunc_api_Interface_api_Interface__model_shareAddress_1 (a0 : List TInterface) (a1c0 : TRouter) : Int :=
  letS (runN (S.slices_IndexFunc_api_Interface_api_Interface__model_shareAddress_1_l1 a0 a1c0) (.inl ()) 0 a0.length) (fun y4 => Sum.elim (fun _ => -1) (fun y6 => y6) y4)
theorem s_slices_IndexFunc_api_Interface_api_Interface__model_shareAddress_1 (a0 : List TInterface) (a1c0 : TRouter) (ha0 : LL L_TInterface a0) (ha1c0 : L_TRouter a1c0) : M.slices_IndexFunc_api_Interface_api_Interface__model_shareAddress_1 a0 a1c0 = some (S.slices_IndexFunc_api_Interface_api_Interface__model_shareAddress_1 a0 a1c0) := by
  have hM := maxLen_eq
  unfold M.slices_IndexFunc_api_Interface_api_Interface__model_shareAddress_1 S.slices_IndexFunc_api_Interface_api_Interface__model_shareAddress_1
  refine s_bind (s_slices_IndexFunc_api_Interface_api_Interface__model_shareAddress_1_l1 a0 a1c0 ha0 ha1c0 0) (fun y4 hey4 => ?_)
  refine s_elim (fun _ hl => ?_) (fun y6 hly6 => ?_)
  · rfl
  · rfl
noncomputable def S.slices_ContainsFunc_api_Interface_api_Interface__model_shareAddress_1 (a0 : List TInterface) (a1c0 : TRouter) : Bool :=
  letS (S.slices_IndexFunc_api_Interface_api_Interface__model_shareAddress_1 a0 a1c0) (fun r1 => decide (r1 ≥ 0))
theorem s_slices_ContainsFunc_api_Interface_api_Interface__model_shareAddress_1 (a0 : List TInterface) (a1c0 : TRouter) (ha0 : LL L_TInterface a0) (ha1c0 : L_TRouter a1c0) : M.slices_ContainsFunc_api_Interface_api_Interface__model_shareAddress_1 a0 a1c0 = some (S.slices_ContainsFunc_api_Interface_api_Interface__model_shareAddress_1 a0 a1c0) := by
  have hM := maxLen_eq
  unfold M.slices_ContainsFunc_api_Interface_api_Interface__model_shareAddress_1 S.slices_ContainsFunc_api_Interface_api_Interface__model_shareAddress_1
  refine s_bind (s_slices_IndexFunc_api_Interface_api_Interface__model_shareAddress_1 a0 a1c0 ha0 ha1c0) (fun r1 her1 => ?_)
  rfl
noncomputable def S.model_shareAddress (a0 : TRouter) (a1 : TRouter) : Bool :=
  letS (S.slices_ContainsFunc_api_Interface_api_Interface__model_shareAddress_1 a1.fInterfaces a0) (fun r1 => r1)
theorem s_model_shareAddress (a0 : TRouter) (a1 : TRouter) (ha0 : L_TRouter a0) (ha1 : L_TRouter a1) : M.model_shareAddress a0 a1 = some (S.model_shareAddress a0 a1) := by
  have hM := maxLen_eq
  unfold M.model_shareAddress S.model_shareAddress
  refine s_bind (s_slices_ContainsFunc_api_Interface_api_Interface__model_shareAddress_1 a1.fInterfaces a0 (L_TRouter.fInterfaces ha1) ha0) (fun r1 her1 => ?_)
  rfl
noncomputable def S.model_Check_l2 (a0 : TNetwork) (i1 : Nat) (i4 : Nat) : Option (Unit ⊕ Int) :=
  letS (bif (!(strEq ((((a0.fRouters.drop 0).take (i1 - 0)).getD i4 default).fName) ((a0.fRouters.getD i1 default).fName))) then S.model_shareAddress (((a0.fRouters.drop 0).take (i1 - 0)).getD i4 default) (a0.fRouters.getD i1 default) else default) (fun r6 => bif (strEq ((((a0.fRouters.drop 0).take (i1 - 0)).getD i4 default).fName) ((a0.fRouters.getD i1 default).fName)) || r6 then (some (.inr 4)) else none)
theorem s_model_Check_l2 (a0 : TNetwork) (i1 : Nat) (ha0 : L_TNetwork a0) (hi1 : i1 < a0.fRouters.length) (i0 : Nat) : loopM (M.model_Check_l2 a0 (i1 : Int)) (i0 : Int) = some (runN (S.model_Check_l2 a0 i1) (.inl ()) i0 (i1 - i0)) := by
  have hM := maxLen_eq
  have hni1 : a0.fRouters.length ≤ maxLen := (L_TNetwork.fRouters ha0).1
  have hni4 : i1 ≤ maxLen := (by omega)
  refine loop_runN (n := i1) (fun i4 hi4 => ?_) (fun m hm => ?_) i0
  · unfold M.model_Check_l2 S.model_Check_l2
    try simp only [Int.toNat_natCast]
    refine s_then (dt (by omega)) ?_
    refine s_gd (all_c (dt (by omega)) (all_c (dt (by simp; omega)) all_n)) ?_
    refine s_bindN (s_gc fun hg => (s_model_shareAddress (((a0.fRouters.drop 0).take (i1 - 0)).getD i4 default) (a0.fRouters.getD i1 default) (LL.getD (LL.take (LL.drop (L_TNetwork.fRouters ha0) _) _) L_TRouter.dflt i4) (LL.getD (L_TNetwork.fRouters ha0) L_TRouter.dflt i1))) (fun r6 her6 => ?_)
    refine s_ifN (fun hb3 => ?_) (fun hb3 => ?_)
    · exact s_out
    · exact s_up (by omega)
  · unfold M.model_Check_l2
    try simp only [Int.toNat_natCast]
    exact s_else (decide_eq_false (by omega)) rfl
noncomputable def S.model_Check_l1 (a0 : TNetwork) (i1 : Nat) : Option (Unit ⊕ Int) :=
  letS (S.model_CheckRouter (a0.fRouters.getD i1 default)) (fun r3 => bif r3 != 0 then (some (.inr r3)) else (letS (runN (S.model_Check_l2 a0 i1) (.inl ()) 0 i1) (fun y7 => Sum.elim (fun _ => none) (fun y9 => some (.inr y9)) y7)))
theorem s_model_Check_l1 (a0 : TNetwork) (ha0 : L_TNetwork a0) (i0 : Nat) : loopM (M.model_Check_l1 a0) (i0 : Int) = some (runN (S.model_Check_l1 a0) (.inl ()) i0 (a0.fRouters.length - i0)) := by
  have hM := maxLen_eq
  have hni1 : a0.fRouters.length ≤ maxLen := (L_TNetwork.fRouters ha0).1
  refine loop_runN (n := a0.fRouters.length) (fun i1 hi1 => ?_) (fun m hm => ?_) i0
  · unfold M.model_Check_l1 S.model_Check_l1
    try simp only [Int.toNat_natCast]
    refine s_then (dt (by omega)) ?_
    refine s_gd (all_c (dt (by omega)) (all_c (dt (by omega)) all_n)) ?_
    refine s_bindN (s_model_CheckRouter (a0.fRouters.getD i1 default) (LL.getD (L_TNetwork.fRouters ha0) L_TRouter.dflt i1)) (fun r3 her3 => ?_)
    refine s_ifN (fun hb2 => ?_) (fun hb2 => ?_)
    · exact s_out
    · refine s_gd (all_c (dt (by omega)) (all_c (dt (by omega)) all_n)) ?_
      refine s_bindN (s_model_Check_l2 a0 i1 ha0 hi1 0) (fun y7 hey7 => ?_)
      refine s_elimN (fun _ hl => ?_) (fun y9 hly9 => ?_)
      · exact s_up (by omega)
      · exact s_out
  · unfold M.model_Check_l1
    try simp only [Int.toNat_natCast]
    exact s_else (decide_eq_false (by omega)) rfl
noncomputable def S.model_Check (a0 : TNetwork) : Int :=
  bif decide ((a0.fRouters.length : Int) > 8) then 7 else (letS (runN (S.model_Check_l1 a0) (.inl ()) 0 a0.fRouters.length) (fun y10 => Sum.elim (fun _ => 0) (fun y12 => y12) y10))
theorem s_model_Check (a0 : TNetwork) (ha0 : L_TNetwork a0) : M.model_Check a0 = some (S.model_Check a0) := by
  have hM := maxLen_eq
  unfold M.model_Check S.model_Check
  refine s_if (fun hb1 => ?_) (fun hb1 => ?_)
  · rfl
  · refine s_bind (s_model_Check_l1 a0 ha0 0) (fun y10 hey10 => ?_)
    refine s_elim (fun _ hl => ?_) (fun y12 hly12 => ?_)
    · rfl
    · rfl
noncomputable def S.cmp_isNaN_uint32 (a0 : Int) : Bool :=
  a0 != a0
noncomputable def S.cmp_Compare_uint32 (a0 : Int) (a1 : Int) : Int :=
  letS (S.cmp_isNaN_uint32 a0) (fun r1 => letS (S.cmp_isNaN_uint32 a1) (fun r2 => bif r1 then (bif r2 then 0 else (-1)) else (bif r2 then 1 else (bif decide (a0 < a1) then (-1) else (bif decide (a0 > a1) then 1 else 0)))))
noncomputable def S.cmp_isNaN_int (a0 : Int) : Bool :=
  a0 != a0
noncomputable def S.cmp_Compare_int (a0 : Int) (a1 : Int) : Int :=
  letS (S.cmp_isNaN_int a0) (fun r1 => letS (S.cmp_isNaN_int a1) (fun r2 => bif r1 then (bif r2 then 0 else (-1)) else (bif r2 then 1 else (bif decide (a0 < a1) then (-1) else (bif decide (a0 > a1) then 1 else 0)))))
noncomputable def S.addr_Compare (a0 : TPrefix) (a1 : TPrefix) : Int :=
  letS (S.cmp_Compare_uint32 a0.fAddr a1.fAddr) (fun r1 => bif r1 != 0 then r1 else (letS (S.cmp_Compare_int a0.fLen a1.fLen) (fun r2 => r2)))
noncomputable def S.cmp_Or_int_l1 (a0 : List Int) (i1 : Nat) : Option (Unit ⊕ Int) :=
  bif (a0.getD i1 default) != 0 then (some (.inr (a0.getD i1 default))) else none
noncomputable def S.cmp_Or_int (a0 : List Int) : Int :=
  letS (runN (S.cmp_Or_int_l1 a0) (.inl ()) 0 a0.length) (fun y3 => Sum.elim (fun _ => 0) (fun y5 => y5) y3)
noncomputable def S.topo_Build_1 (a0 : TDomain) (a1 : TDomain) : Int :=
  letS (S.addr_Compare a0.fPrefix a1.fPrefix) (fun r1 => letS (S.cmp_Compare_int a0.fVLAN a1.fVLAN) (fun r2 => letS (S.cmp_Or_int ([r1, r2] : List Int)) (fun r3 => r3)))
end Nv
