/- Total forms of the mirrors. -/
import Derived.Test.YtmangnohekiphaaGreatNvD1
import Derived.Test.YtmangnohekiphaaGreatNvLibB
import Derived.Test.YtmangnohekiphaaGreatNvQ0
set_option maxRecDepth 100000
namespace Nv
open Go
def L_TInterface (x : TInterface) : Prop := (x.fName.size ≤ maxLen) ∧ (x.fIn.size ≤ maxLen) ∧ (x.fOut.size ≤ maxLen)
theorem L_TInterface.fName {x : TInterface} (h : L_TInterface x) : x.fName.size ≤ maxLen := h.1
theorem L_TInterface.fIn {x : TInterface} (h : L_TInterface x) : x.fIn.size ≤ maxLen := h.2.1
theorem L_TInterface.fOut {x : TInterface} (h : L_TInterface x) : x.fOut.size ≤ maxLen := h.2.2
theorem L_TInterface.dflt : L_TInterface default := ⟨(Nat.zero_le _), (Nat.zero_le _), (Nat.zero_le _)⟩
def L_TPrefixList (x : TPrefixList) : Prop := (x.fName.size ≤ maxLen) ∧ (x.fRules.length ≤ maxLen)
theorem L_TPrefixList.fName {x : TPrefixList} (h : L_TPrefixList x) : x.fName.size ≤ maxLen := h.1
theorem L_TPrefixList.fRules {x : TPrefixList} (h : L_TPrefixList x) : x.fRules.length ≤ maxLen := h.2
theorem L_TPrefixList.dflt : L_TPrefixList default := ⟨(Nat.zero_le _), (Nat.zero_le _)⟩
def L_TClause (x : TClause) : Prop := (x.fList.size ≤ maxLen)
theorem L_TClause.fList {x : TClause} (h : L_TClause x) : x.fList.size ≤ maxLen := h
theorem L_TClause.dflt : L_TClause default := (Nat.zero_le _)
def L_TRouteMap (x : TRouteMap) : Prop := (x.fName.size ≤ maxLen) ∧ (LL L_TClause x.fClauses)
theorem L_TRouteMap.fName {x : TRouteMap} (h : L_TRouteMap x) : x.fName.size ≤ maxLen := h.1
theorem L_TRouteMap.fClauses {x : TRouteMap} (h : L_TRouteMap x) : LL L_TClause x.fClauses := h.2
theorem L_TRouteMap.dflt : L_TRouteMap default := ⟨(Nat.zero_le _), ⟨Nat.zero_le _, fun _ h => absurd h List.not_mem_nil⟩⟩
def L_TACL (x : TACL) : Prop := (x.fName.size ≤ maxLen) ∧ (x.fRules.length ≤ maxLen)
theorem L_TACL.fName {x : TACL} (h : L_TACL x) : x.fName.size ≤ maxLen := h.1
theorem L_TACL.fRules {x : TACL} (h : L_TACL x) : x.fRules.length ≤ maxLen := h.2
theorem L_TACL.dflt : L_TACL default := ⟨(Nat.zero_le _), (Nat.zero_le _)⟩
def L_TTranslation (x : TTranslation) : Prop := (x.fList.size ≤ maxLen)
theorem L_TTranslation.fList {x : TTranslation} (h : L_TTranslation x) : x.fList.size ≤ maxLen := h
theorem L_TTranslation.dflt : L_TTranslation default := (Nat.zero_le _)
def L_TStaticRoute (x : TStaticRoute) : Prop := (x.fIface.size ≤ maxLen)
theorem L_TStaticRoute.fIface {x : TStaticRoute} (h : L_TStaticRoute x) : x.fIface.size ≤ maxLen := h
theorem L_TStaticRoute.dflt : L_TStaticRoute default := (Nat.zero_le _)
def L_TRedist (x : TRedist) : Prop := (x.fMap.size ≤ maxLen)
theorem L_TRedist.fMap {x : TRedist} (h : L_TRedist x) : x.fMap.size ≤ maxLen := h
theorem L_TRedist.dflt : L_TRedist default := (Nat.zero_le _)
def L_TLinkState (x : TLinkState) : Prop := (x.fRanges.length ≤ maxLen) ∧ (LL L_TRedist x.fRedist)
theorem L_TLinkState.fRanges {x : TLinkState} (h : L_TLinkState x) : x.fRanges.length ≤ maxLen := h.1
theorem L_TLinkState.fRedist {x : TLinkState} (h : L_TLinkState x) : LL L_TRedist x.fRedist := h.2
theorem L_TLinkState.dflt : L_TLinkState default := ⟨(Nat.zero_le _), ⟨Nat.zero_le _, fun _ h => absurd h List.not_mem_nil⟩⟩
def L_TDistanceVector (x : TDistanceVector) : Prop := (x.fIn.size ≤ maxLen) ∧ (x.fOut.size ≤ maxLen) ∧ (LL L_TRedist x.fRedist)
theorem L_TDistanceVector.fIn {x : TDistanceVector} (h : L_TDistanceVector x) : x.fIn.size ≤ maxLen := h.1
theorem L_TDistanceVector.fOut {x : TDistanceVector} (h : L_TDistanceVector x) : x.fOut.size ≤ maxLen := h.2.1
theorem L_TDistanceVector.fRedist {x : TDistanceVector} (h : L_TDistanceVector x) : LL L_TRedist x.fRedist := h.2.2
theorem L_TDistanceVector.dflt : L_TDistanceVector default := ⟨(Nat.zero_le _), (Nat.zero_le _), ⟨Nat.zero_le _, fun _ h => absurd h List.not_mem_nil⟩⟩
def L_TNeighbor (x : TNeighbor) : Prop := (x.fIn.size ≤ maxLen) ∧ (x.fOut.size ≤ maxLen)
theorem L_TNeighbor.fIn {x : TNeighbor} (h : L_TNeighbor x) : x.fIn.size ≤ maxLen := h.1
theorem L_TNeighbor.fOut {x : TNeighbor} (h : L_TNeighbor x) : x.fOut.size ≤ maxLen := h.2
theorem L_TNeighbor.dflt : L_TNeighbor default := ⟨(Nat.zero_le _), (Nat.zero_le _)⟩
def L_TPathVector (x : TPathVector) : Prop := (LL L_TNeighbor x.fNeighbors) ∧ (x.fNetworks.length ≤ maxLen) ∧ (x.fAggregates.length ≤ maxLen) ∧ (x.fConditions.length ≤ maxLen) ∧ (LL L_TRedist x.fRedist)
theorem L_TPathVector.fNeighbors {x : TPathVector} (h : L_TPathVector x) : LL L_TNeighbor x.fNeighbors := h.1
theorem L_TPathVector.fNetworks {x : TPathVector} (h : L_TPathVector x) : x.fNetworks.length ≤ maxLen := h.2.1
theorem L_TPathVector.fAggregates {x : TPathVector} (h : L_TPathVector x) : x.fAggregates.length ≤ maxLen := h.2.2.1
theorem L_TPathVector.fConditions {x : TPathVector} (h : L_TPathVector x) : x.fConditions.length ≤ maxLen := h.2.2.2.1
theorem L_TPathVector.fRedist {x : TPathVector} (h : L_TPathVector x) : LL L_TRedist x.fRedist := h.2.2.2.2
theorem L_TPathVector.dflt : L_TPathVector default := ⟨⟨Nat.zero_le _, fun _ h => absurd h List.not_mem_nil⟩, (Nat.zero_le _), (Nat.zero_le _), (Nat.zero_le _), ⟨Nat.zero_le _, fun _ h => absurd h List.not_mem_nil⟩⟩
def L_TRouter (x : TRouter) : Prop := (x.fName.size ≤ maxLen) ∧ (LL L_TInterface x.fInterfaces) ∧ (LL L_TPrefixList x.fLists) ∧ (LL L_TRouteMap x.fMaps) ∧ (LL L_TACL x.fACLs) ∧ (LL L_TTranslation x.fNAT) ∧ (LL L_TStaticRoute x.fStatics) ∧ (L_TLinkState x.fLS) ∧ (L_TDistanceVector x.fDV) ∧ (L_TPathVector x.fPV)
theorem L_TRouter.fName {x : TRouter} (h : L_TRouter x) : x.fName.size ≤ maxLen := h.1
theorem L_TRouter.fInterfaces {x : TRouter} (h : L_TRouter x) : LL L_TInterface x.fInterfaces := h.2.1
theorem L_TRouter.fLists {x : TRouter} (h : L_TRouter x) : LL L_TPrefixList x.fLists := h.2.2.1
theorem L_TRouter.fMaps {x : TRouter} (h : L_TRouter x) : LL L_TRouteMap x.fMaps := h.2.2.2.1
theorem L_TRouter.fACLs {x : TRouter} (h : L_TRouter x) : LL L_TACL x.fACLs := h.2.2.2.2.1
theorem L_TRouter.fNAT {x : TRouter} (h : L_TRouter x) : LL L_TTranslation x.fNAT := h.2.2.2.2.2.1
theorem L_TRouter.fStatics {x : TRouter} (h : L_TRouter x) : LL L_TStaticRoute x.fStatics := h.2.2.2.2.2.2.1
theorem L_TRouter.fLS {x : TRouter} (h : L_TRouter x) : L_TLinkState x.fLS := h.2.2.2.2.2.2.2.1
theorem L_TRouter.fDV {x : TRouter} (h : L_TRouter x) : L_TDistanceVector x.fDV := h.2.2.2.2.2.2.2.2.1
theorem L_TRouter.fPV {x : TRouter} (h : L_TRouter x) : L_TPathVector x.fPV := h.2.2.2.2.2.2.2.2.2
theorem L_TRouter.dflt : L_TRouter default := ⟨(Nat.zero_le _), ⟨Nat.zero_le _, fun _ h => absurd h List.not_mem_nil⟩, ⟨Nat.zero_le _, fun _ h => absurd h List.not_mem_nil⟩, ⟨Nat.zero_le _, fun _ h => absurd h List.not_mem_nil⟩, ⟨Nat.zero_le _, fun _ h => absurd h List.not_mem_nil⟩, ⟨Nat.zero_le _, fun _ h => absurd h List.not_mem_nil⟩, ⟨Nat.zero_le _, fun _ h => absurd h List.not_mem_nil⟩, L_TLinkState.dflt, L_TDistanceVector.dflt, L_TPathVector.dflt⟩
noncomputable def S.law5_Small_l1 (a0 : TRouter) (i1 : Nat) : Option (Unit ⊕ Bool) :=
  bif decide ((((a0.fLists.getD i1 default).fRules).length : Int) > 20) then (some (.inr false)) else none
theorem s_law5_Small_l1 (a0 : TRouter) (ha0 : L_TRouter a0) (i0 : Nat) : loopM (M.law5_Small_l1 a0) (i0 : Int) = some (runN (S.law5_Small_l1 a0) (.inl ()) i0 (a0.fLists.length - i0)) := by
  have hM := maxLen_eq
  have hni1 : a0.fLists.length ≤ maxLen := (L_TRouter.fLists ha0).1
  refine loop_runN (n := a0.fLists.length) (fun i1 hi1 => ?_) (fun m hm => ?_) i0
  · unfold M.law5_Small_l1 S.law5_Small_l1
    try simp only [Int.toNat_natCast]
    refine s_then (dt (by omega)) ?_
    refine s_gd (all_c (dt (by omega)) (all_c (dt (by omega)) all_n)) ?_
    refine s_ifN (fun hb2 => ?_) (fun hb2 => ?_)
    · exact s_out
    · exact s_up (by omega)
  · unfold M.law5_Small_l1
    try simp only [Int.toNat_natCast]
    exact s_else (decide_eq_false (by omega)) rfl
noncomputable def S.law5_Small_l2 (a0 : TRouter) (i6 : Nat) : Option (Unit ⊕ Bool) :=
  bif decide ((((a0.fMaps.getD i6 default).fClauses).length : Int) > 12) then (some (.inr false)) else none
theorem s_law5_Small_l2 (a0 : TRouter) (ha0 : L_TRouter a0) (i0 : Nat) : loopM (M.law5_Small_l2 a0) (i0 : Int) = some (runN (S.law5_Small_l2 a0) (.inl ()) i0 (a0.fMaps.length - i0)) := by
  have hM := maxLen_eq
  have hni6 : a0.fMaps.length ≤ maxLen := (L_TRouter.fMaps ha0).1
  refine loop_runN (n := a0.fMaps.length) (fun i6 hi6 => ?_) (fun m hm => ?_) i0
  · unfold M.law5_Small_l2 S.law5_Small_l2
    try simp only [Int.toNat_natCast]
    refine s_then (dt (by omega)) ?_
    refine s_gd (all_c (dt (by omega)) (all_c (dt (by omega)) all_n)) ?_
    refine s_ifN (fun hb3 => ?_) (fun hb3 => ?_)
    · exact s_out
    · exact s_up (by omega)
  · unfold M.law5_Small_l2
    try simp only [Int.toNat_natCast]
    exact s_else (decide_eq_false (by omega)) rfl
noncomputable def S.law5_Small_l3 (a0 : TRouter) (i11 : Nat) : Option (Unit ⊕ Bool) :=
  bif decide ((((a0.fACLs.getD i11 default).fRules).length : Int) > 20) then (some (.inr false)) else none
theorem s_law5_Small_l3 (a0 : TRouter) (ha0 : L_TRouter a0) (i0 : Nat) : loopM (M.law5_Small_l3 a0) (i0 : Int) = some (runN (S.law5_Small_l3 a0) (.inl ()) i0 (a0.fACLs.length - i0)) := by
  have hM := maxLen_eq
  have hni11 : a0.fACLs.length ≤ maxLen := (L_TRouter.fACLs ha0).1
  refine loop_runN (n := a0.fACLs.length) (fun i11 hi11 => ?_) (fun m hm => ?_) i0
  · unfold M.law5_Small_l3 S.law5_Small_l3
    try simp only [Int.toNat_natCast]
    refine s_then (dt (by omega)) ?_
    refine s_gd (all_c (dt (by omega)) (all_c (dt (by omega)) all_n)) ?_
    refine s_ifN (fun hb4 => ?_) (fun hb4 => ?_)
    · exact s_out
    · exact s_up (by omega)
  · unfold M.law5_Small_l3
    try simp only [Int.toNat_natCast]
    exact s_else (decide_eq_false (by omega)) rfl
noncomputable def S.law5_Small (a0 : TRouter) : Bool :=
  bif (((((((((((((decide ((a0.fInterfaces.length : Int) > 12)) || (decide ((a0.fLists.length : Int) > 12))) || (decide ((a0.fMaps.length : Int) > 12))) || (decide ((a0.fACLs.length : Int) > 12))) || (decide ((a0.fNAT.length : Int) > 12))) || (decide ((a0.fStatics.length : Int) > 20))) || (decide ((a0.fLS.fRanges.length : Int) > 8))) || (decide ((a0.fLS.fRedist.length : Int) > 8))) || (decide ((a0.fDV.fRedist.length : Int) > 8))) || (decide ((a0.fPV.fRedist.length : Int) > 8))) || (decide ((a0.fPV.fNeighbors.length : Int) > 12))) || (decide ((a0.fPV.fNetworks.length : Int) > 12))) || (decide ((a0.fPV.fAggregates.length : Int) > 12))) || (decide ((a0.fPV.fConditions.length : Int) > 12)) then false else (letS (runN (S.law5_Small_l1 a0) (.inl ()) 0 a0.fLists.length) (fun y3 => Sum.elim (fun _ => letS (runN (S.law5_Small_l2 a0) (.inl ()) 0 a0.fMaps.length) (fun y8 => Sum.elim (fun _ => letS (runN (S.law5_Small_l3 a0) (.inl ()) 0 a0.fACLs.length) (fun y13 => Sum.elim (fun _ => true) (fun y15 => y15) y13)) (fun y10 => y10) y8)) (fun y5 => y5) y3))
theorem s_law5_Small (a0 : TRouter) (ha0 : L_TRouter a0) : M.law5_Small a0 = some (S.law5_Small a0) := by
  have hM := maxLen_eq
  unfold M.law5_Small S.law5_Small
  refine s_if (fun hb1 => ?_) (fun hb1 => ?_)
  · rfl
  · refine s_bind (s_law5_Small_l1 a0 ha0 0) (fun y3 hey3 => ?_)
    refine s_elim (fun _ hl => ?_) (fun y5 hly5 => ?_)
    · refine s_bind (s_law5_Small_l2 a0 ha0 0) (fun y8 hey8 => ?_)
      refine s_elim (fun _ hl => ?_) (fun y10 hly10 => ?_)
      · refine s_bind (s_law5_Small_l3 a0 ha0 0) (fun y13 hey13 => ?_)
        refine s_elim (fun _ hl => ?_) (fun y15 hly15 => ?_)
        · rfl
        · rfl
      · rfl
    · rfl
noncomputable def S.ref4_letter (a0 : Int) : Bool :=
  ((decide (a0 ≥ 97)) && (decide (a0 ≤ 122))) || ((decide (a0 ≥ 65)) && (decide (a0 ≤ 90)))
theorem s_ref4_letter (a0 : Int)  : M.ref4_letter a0 = some (S.ref4_letter a0) := by
  have hM := maxLen_eq
  unfold M.ref4_letter S.ref4_letter
  rfl
noncomputable def S.ref4_Name_l1 (a0 : ByteArray) (i2 : Nat) : Option (Unit ⊕ Bool) :=
  letS (S.ref4_letter (byteAt a0 (i2 : Int))) (fun r4 => bif (((((!r4) && (!((decide ((byteAt a0 (i2 : Int)) ≥ 48)) && (decide ((byteAt a0 (i2 : Int)) ≤ 57))))) && ((byteAt a0 (i2 : Int)) != 45)) && ((byteAt a0 (i2 : Int)) != 95)) && ((byteAt a0 (i2 : Int)) != 47)) && ((byteAt a0 (i2 : Int)) != 46) then (some (.inr false)) else none)
theorem s_ref4_Name_l1 (a0 : ByteArray) (ha0 : a0.size ≤ maxLen) (i0 : Nat) : loopM (M.ref4_Name_l1 a0) (i0 : Int) = some (runN (S.ref4_Name_l1 a0) (.inl ()) i0 (a0.size - i0)) := by
  have hM := maxLen_eq
  have hni2 : a0.size ≤ maxLen := ha0
  refine loop_runN (n := a0.size) (fun i2 hi2 => ?_) (fun m hm => ?_) i0
  · unfold M.ref4_Name_l1 S.ref4_Name_l1
    try simp only [Int.toNat_natCast]
    refine s_then (dt (by omega)) ?_
    refine s_gd (all_c (dt (by omega)) (all_c (dt (by omega)) all_n)) ?_
    refine s_bindN (s_ref4_letter (byteAt a0 (i2 : Int))) (fun r4 her4 => ?_)
    refine s_ifN (fun hb2 => ?_) (fun hb2 => ?_)
    · exact s_out
    · exact s_up (by omega)
  · unfold M.ref4_Name_l1
    try simp only [Int.toNat_natCast]
    exact s_else (decide_eq_false (by omega)) rfl
noncomputable def S.ref4_Name (a0 : ByteArray) : Bool :=
  letS (bif (!((decide ((a0.size : Int) < 1)) || (decide ((a0.size : Int) > 15)))) then S.ref4_letter (byteAt a0 0) else default) (fun r1 => bif ((decide ((a0.size : Int) < 1)) || (decide ((a0.size : Int) > 15))) || (!r1) then false else (letS (runN (S.ref4_Name_l1 a0) (.inl ()) 1 (a0.size - 1)) (fun y5 => Sum.elim (fun _ => true) (fun y7 => y7) y5)))
theorem s_ref4_Name (a0 : ByteArray) (ha0 : a0.size ≤ maxLen) : M.ref4_Name a0 = some (S.ref4_Name a0) := by
  have hM := maxLen_eq
  unfold M.ref4_Name S.ref4_Name
  refine s_bind (s_gc fun hg => (s_ref4_letter (byteAt a0 0))) (fun r1 her1 => ?_)
  refine s_gd (all_c (s_guard fun hg => (dt (by first | omega | (simp; omega) | (simp at *; omega)))) (all_c (s_guard fun hg => (dt (by first | omega | (simp; omega) | (simp at *; omega)))) all_n)) ?_
  refine s_if (fun hb1 => ?_) (fun hb1 => ?_)
  · rfl
  · refine s_bind (s_ref4_Name_l1 a0 ha0 1) (fun y5 hey5 => ?_)
    refine s_elim (fun _ hl => ?_) (fun y7 hly7 => ?_)
    · rfl
    · rfl
noncomputable def S.ref8_within (a0 : Int) (a1 : Int) (a2 : Int) : Bool :=
  (decide (a1 ≤ a0)) && (decide (a0 ≤ a2))
theorem s_ref8_within (a0 : Int) (a1 : Int) (a2 : Int)  : M.ref8_within a0 a1 a2 = some (S.ref8_within a0 a1 a2) := by
  have hM := maxLen_eq
  unfold M.ref8_within S.ref8_within
  rfl
noncomputable def S.ref4_Network (a0 : Int) (a1 : Int) : TPrefix :=
  letS (S.ref4_Mask (if 0 > (if 32 < a1 then 32 else a1) then 0 else (if 32 < a1 then 32 else a1))) (fun r1 => (⟨bitD .and .u32 a0 r1, if 0 > (if 32 < a1 then 32 else a1) then 0 else (if 32 < a1 then 32 else a1)⟩ : TPrefix))
theorem s_ref4_Network (a0 : Int) (a1 : Int)  : M.ref4_Network a0 a1 = some (S.ref4_Network a0 a1) := by
  have hM := maxLen_eq
  unfold M.ref4_Network S.ref4_Network
  refine s_bind (s_ref4_Mask (if 0 > (if 32 < a1 then 32 else a1) then 0 else (if 32 < a1 then 32 else a1))) (fun r1 her1 => ?_)
  rfl
noncomputable def S.ref4_Contains (a0 : TPrefix) (a1 : Int) : Bool :=
  letS (S.ref4_Mask a0.fLen) (fun r1 => (bitD .and .u32 a1 r1) == a0.fAddr)
theorem s_ref4_Contains (a0 : TPrefix) (a1 : Int)  : M.ref4_Contains a0 a1 = some (S.ref4_Contains a0 a1) := by
  have hM := maxLen_eq
  unfold M.ref4_Contains S.ref4_Contains
  refine s_bind (s_ref4_Mask a0.fLen) (fun r1 her1 => ?_)
  rfl
noncomputable def S.ref4_Covers (a0 : TPrefix) (a1 : TPrefix) : Bool :=
  letS (bif (decide (a0.fLen ≤ a1.fLen)) then S.ref4_Contains a0 a1.fAddr else default) (fun r1 => (decide (a0.fLen ≤ a1.fLen)) && r1)
theorem s_ref4_Covers (a0 : TPrefix) (a1 : TPrefix)  : M.ref4_Covers a0 a1 = some (S.ref4_Covers a0 a1) := by
  have hM := maxLen_eq
  unfold M.ref4_Covers S.ref4_Covers
  refine s_bind (s_gc fun hg => (s_ref4_Contains a0 a1.fAddr)) (fun r1 her1 => ?_)
  rfl
noncomputable def S.ref4_Overlaps (a0 : TPrefix) (a1 : TPrefix) : Bool :=
  letS (S.ref4_Covers a0 a1) (fun r1 => letS (bif (!r1) then S.ref4_Covers a1 a0 else default) (fun r2 => r1 || r2))
theorem s_ref4_Overlaps (a0 : TPrefix) (a1 : TPrefix)  : M.ref4_Overlaps a0 a1 = some (S.ref4_Overlaps a0 a1) := by
  have hM := maxLen_eq
  unfold M.ref4_Overlaps S.ref4_Overlaps
  refine s_bind (s_ref4_Covers a0 a1) (fun r1 her1 => ?_)
  refine s_bind (s_gc fun hg => (s_ref4_Covers a1 a0)) (fun r2 her2 => ?_)
  rfl
noncomputable def S.ref8_interfaces_l2 (a0 : List TInterface) (i1 : Nat) (i4 : Nat) : Option (Unit ⊕ Int) :=
  bif strEq ((a0.getD i4 default).fName) ((a0.getD i1 default).fName) then (some (.inr 4)) else none
theorem s_ref8_interfaces_l2 (a0 : List TInterface) (i1 : Nat) (ha0 : LL L_TInterface a0) (hi1 : i1 < a0.length) (i0 : Nat) : loopM (M.ref8_interfaces_l2 a0 (i1 : Int)) (i0 : Int) = some (runN (S.ref8_interfaces_l2 a0 i1) (.inl ()) i0 (i1 - i0)) := by
  have hM := maxLen_eq
  have hni1 : a0.length ≤ maxLen := ha0.1
  have hni4 : i1 ≤ maxLen := (by omega)
  refine loop_runN (n := i1) (fun i4 hi4 => ?_) (fun m hm => ?_) i0
  · unfold M.ref8_interfaces_l2 S.ref8_interfaces_l2
    try simp only [Int.toNat_natCast]
    refine s_then (dt (by omega)) ?_
    refine s_gd (all_c (dt (by omega)) (all_c (dt (by omega)) all_n)) ?_
    refine s_ifN (fun hb3 => ?_) (fun hb3 => ?_)
    · exact s_out
    · exact s_up (by omega)
  · unfold M.ref8_interfaces_l2
    try simp only [Int.toNat_natCast]
    exact s_else (decide_eq_false (by omega)) rfl
noncomputable def S.ref8_interfaces_l3 (a0 : List TInterface) (i1 : Nat) (i14 : Nat) : Option (Unit ⊕ Int) :=
  letS (bif ((((a0.getD i1 default).fLen) != 0) && (((a0.getD i14 default).fLen) != 0)) then S.ref4_Network ((a0.getD i1 default).fAddr) ((a0.getD i1 default).fLen) else default) (fun r16 => letS (bif ((((a0.getD i1 default).fLen) != 0) && (((a0.getD i14 default).fLen) != 0)) then S.ref4_Network ((a0.getD i14 default).fAddr) ((a0.getD i14 default).fLen) else default) (fun r17 => letS (bif ((((a0.getD i1 default).fLen) != 0) && (((a0.getD i14 default).fLen) != 0)) then S.ref4_Overlaps r16 r17 else default) (fun r18 => bif ((((a0.getD i1 default).fLen) != 0) && (((a0.getD i14 default).fLen) != 0)) && r18 then (some (.inr 6)) else none)))
theorem s_ref8_interfaces_l3 (a0 : List TInterface) (i1 : Nat) (ha0 : LL L_TInterface a0) (hi1 : i1 < a0.length) (i0 : Nat) : loopM (M.ref8_interfaces_l3 a0 (i1 : Int)) (i0 : Int) = some (runN (S.ref8_interfaces_l3 a0 i1) (.inl ()) i0 (i1 - i0)) := by
  have hM := maxLen_eq
  have hni1 : a0.length ≤ maxLen := ha0.1
  have hni14 : i1 ≤ maxLen := (by omega)
  refine loop_runN (n := i1) (fun i14 hi14 => ?_) (fun m hm => ?_) i0
  · unfold M.ref8_interfaces_l3 S.ref8_interfaces_l3
    try simp only [Int.toNat_natCast]
    refine s_then (dt (by omega)) ?_
    refine s_bindN (s_gc fun hg => (s_ref4_Network ((a0.getD i1 default).fAddr) ((a0.getD i1 default).fLen))) (fun r16 her16 => ?_)
    refine s_bindN (s_gc fun hg => (s_ref4_Network ((a0.getD i14 default).fAddr) ((a0.getD i14 default).fLen))) (fun r17 her17 => ?_)
    refine s_bindN (s_gc fun hg => (s_ref4_Overlaps r16 r17)) (fun r18 her18 => ?_)
    refine s_gd (all_c (s_guard fun hg => (dt (by first | omega | (simp; omega) | (simp at *; omega)))) (all_c (s_guard fun hg => (dt (by first | omega | (simp; omega) | (simp at *; omega)))) (all_c (s_guard fun hg => (dt (by first | omega | (simp; omega) | (simp at *; omega)))) (all_c (s_guard fun hg => (dt (by first | omega | (simp; omega) | (simp at *; omega)))) (all_c (s_guard fun hg => (dt (by first | omega | (simp; omega) | (simp at *; omega)))) (all_c (s_guard fun hg => (dt (by first | omega | (simp; omega) | (simp at *; omega)))) all_n)))))) ?_
    refine s_ifN (fun hb7 => ?_) (fun hb7 => ?_)
    · exact s_out
    · exact s_up (by omega)
  · unfold M.ref8_interfaces_l3
    try simp only [Int.toNat_natCast]
    exact s_else (decide_eq_false (by omega)) rfl
noncomputable def S.ref8_interfaces_l1 (a0 : List TInterface) (i1 : Nat) : Option (Unit ⊕ Int) :=
  letS (S.ref4_Name ((a0.getD i1 default).fName)) (fun r3 => bif !r3 then (some (.inr 3)) else (letS (runN (S.ref8_interfaces_l2 a0 i1) (.inl ()) 0 i1) (fun y6 => Sum.elim (fun _ => letS (S.ref8_within ((a0.getD i1 default).fLen) 0 32) (fun r9 => letS (bif (!(!r9)) then S.ref8_within ((a0.getD i1 default).fVLAN) 0 4094 else default) (fun r10 => letS (bif (!((!r9) || (!r10))) then S.ref8_within ((a0.getD i1 default).fSide) 0 2 else default) (fun r11 => bif ((!r9) || (!r10)) || (!r11) then (some (.inr 1)) else (bif ((((a0.getD i1 default).fLen) == 0) && (((((((((a0.getD i1 default).fAddr) != 0) || (((a0.getD i1 default).fVLAN) != 0)) || (((a0.getD i1 default).fSide) != 0)) || ((a0.getD i1 default).fLS)) || ((a0.getD i1 default).fDV)) || (!strEq ((a0.getD i1 default).fIn) (⟨#[]⟩ : ByteArray))) || (!strEq ((a0.getD i1 default).fOut) (⟨#[]⟩ : ByteArray)))) || ((((a0.getD i1 default).fLen) != 0) && (((a0.getD i1 default).fAddr) == 0)) then (some (.inr 1)) else (letS (bif ((a0.getD i1 default).fLS) then S.ref8_within ((a0.getD i1 default).fArea) 0 255 else default) (fun r12 => letS (bif (((a0.getD i1 default).fLS) && !(!r12)) then S.ref8_within ((a0.getD i1 default).fCost) 1 65535 else default) (fun r13 => bif (((a0.getD i1 default).fLS) && ((!r12) || (!r13))) || ((!((a0.getD i1 default).fLS)) && ((((a0.getD i1 default).fArea) != 0) || (((a0.getD i1 default).fCost) != 0))) then (some (.inr 1)) else (letS (runN (S.ref8_interfaces_l3 a0 i1) (.inl ()) 0 i1) (fun y19 => Sum.elim (fun _ => none) (fun y21 => some (.inr y21)) y19)))))))))) (fun y8 => some (.inr y8)) y6)))
theorem s_ref8_interfaces_l1 (a0 : List TInterface) (ha0 : LL L_TInterface a0) (i0 : Nat) : loopM (M.ref8_interfaces_l1 a0) (i0 : Int) = some (runN (S.ref8_interfaces_l1 a0) (.inl ()) i0 (a0.length - i0)) := by
  have hM := maxLen_eq
  have hni1 : a0.length ≤ maxLen := ha0.1
  refine loop_runN (n := a0.length) (fun i1 hi1 => ?_) (fun m hm => ?_) i0
  · unfold M.ref8_interfaces_l1 S.ref8_interfaces_l1
    try simp only [Int.toNat_natCast]
    refine s_then (dt (by omega)) ?_
    refine s_gd (all_c (dt (by omega)) (all_c (dt (by omega)) all_n)) ?_
    refine s_bindN (s_ref4_Name ((a0.getD i1 default).fName) (L_TInterface.fName (LL.getD ha0 L_TInterface.dflt i1))) (fun r3 her3 => ?_)
    refine s_ifN (fun hb2 => ?_) (fun hb2 => ?_)
    · exact s_out
    · refine s_bindN (s_ref8_interfaces_l2 a0 i1 ha0 hi1 0) (fun y6 hey6 => ?_)
      refine s_elimN (fun _ hl => ?_) (fun y8 hly8 => ?_)
      · refine s_bindN (s_ref8_within ((a0.getD i1 default).fLen) 0 32) (fun r9 her9 => ?_)
        refine s_bindN (s_gc fun hg => (s_ref8_within ((a0.getD i1 default).fVLAN) 0 4094)) (fun r10 her10 => ?_)
        refine s_bindN (s_gc fun hg => (s_ref8_within ((a0.getD i1 default).fSide) 0 2)) (fun r11 her11 => ?_)
        refine s_ifN (fun hb4 => ?_) (fun hb4 => ?_)
        · exact s_out
        · refine s_ifN (fun hb5 => ?_) (fun hb5 => ?_)
          · exact s_out
          · refine s_bindN (s_gc fun hg => (s_ref8_within ((a0.getD i1 default).fArea) 0 255)) (fun r12 her12 => ?_)
            refine s_bindN (s_gc fun hg => (s_ref8_within ((a0.getD i1 default).fCost) 1 65535)) (fun r13 her13 => ?_)
            refine s_ifN (fun hb6 => ?_) (fun hb6 => ?_)
            · exact s_out
            · refine s_bindN (s_ref8_interfaces_l3 a0 i1 ha0 hi1 0) (fun y19 hey19 => ?_)
              refine s_elimN (fun _ hl => ?_) (fun y21 hly21 => ?_)
              · exact s_up (by omega)
              · exact s_out
      · exact s_out
  · unfold M.ref8_interfaces_l1
    try simp only [Int.toNat_natCast]
    exact s_else (decide_eq_false (by omega)) rfl
noncomputable def S.ref8_interfaces (a0 : List TInterface) : Int :=
  bif decide ((a0.length : Int) > 8) then 7 else (letS (runN (S.ref8_interfaces_l1 a0) (.inl ()) 0 a0.length) (fun y22 => Sum.elim (fun _ => 0) (fun y24 => y24) y22))
theorem s_ref8_interfaces (a0 : List TInterface) (ha0 : LL L_TInterface a0) : M.ref8_interfaces a0 = some (S.ref8_interfaces a0) := by
  have hM := maxLen_eq
  unfold M.ref8_interfaces S.ref8_interfaces
  refine s_if (fun hb1 => ?_) (fun hb1 => ?_)
  · rfl
  · refine s_bind (s_ref8_interfaces_l1 a0 ha0 0) (fun y22 hey22 => ?_)
    refine s_elim (fun _ hl => ?_) (fun y24 hly24 => ?_)
    · rfl
    · rfl
noncomputable def S.ref4_Valid (a0 : TPrefix) : Bool :=
  letS (bif ((decide (a0.fLen ≥ 0)) && (decide (a0.fLen ≤ 32))) then S.ref4_Mask a0.fLen else default) (fun r1 => ((decide (a0.fLen ≥ 0)) && (decide (a0.fLen ≤ 32))) && ((bitD .andNot .u32 a0.fAddr r1) == 0))
theorem s_ref4_Valid (a0 : TPrefix)  : M.ref4_Valid a0 = some (S.ref4_Valid a0) := by
  have hM := maxLen_eq
  unfold M.ref4_Valid S.ref4_Valid
  refine s_bind (s_gc fun hg => (s_ref4_Mask a0.fLen)) (fun r1 her1 => ?_)
  rfl
noncomputable def S.ref8_ValidPrefixRule (a0 : TPrefixRule) : Bool :=
  letS (S.ref4_Valid a0.fPrefix) (fun r1 => ((r1 && (decide (a0.fPrefix.fLen ≤ a0.fMin))) && (decide (a0.fMin ≤ a0.fMax))) && (decide (a0.fMax ≤ 32)))
theorem s_ref8_ValidPrefixRule (a0 : TPrefixRule)  : M.ref8_ValidPrefixRule a0 = some (S.ref8_ValidPrefixRule a0) := by
  have hM := maxLen_eq
  unfold M.ref8_ValidPrefixRule S.ref8_ValidPrefixRule
  refine s_bind (s_ref4_Valid a0.fPrefix) (fun r1 her1 => ?_)
  rfl
noncomputable def S.ref8_prefixLists_l2 (a0 : List TPrefixList) (i1 : Nat) (i4 : Nat) : Option (Unit ⊕ Int) :=
  bif strEq ((a0.getD i4 default).fName) ((a0.getD i1 default).fName) then (some (.inr 4)) else none
theorem s_ref8_prefixLists_l2 (a0 : List TPrefixList) (i1 : Nat) (ha0 : LL L_TPrefixList a0) (hi1 : i1 < a0.length) (i0 : Nat) : loopM (M.ref8_prefixLists_l2 a0 (i1 : Int)) (i0 : Int) = some (runN (S.ref8_prefixLists_l2 a0 i1) (.inl ()) i0 (i1 - i0)) := by
  have hM := maxLen_eq
  have hni1 : a0.length ≤ maxLen := ha0.1
  have hni4 : i1 ≤ maxLen := (by omega)
  refine loop_runN (n := i1) (fun i4 hi4 => ?_) (fun m hm => ?_) i0
  · unfold M.ref8_prefixLists_l2 S.ref8_prefixLists_l2
    try simp only [Int.toNat_natCast]
    refine s_then (dt (by omega)) ?_
    refine s_gd (all_c (dt (by omega)) (all_c (dt (by omega)) (all_c (dt (by omega)) (all_c (dt (by omega)) all_n)))) ?_
    refine s_ifN (fun hb3 => ?_) (fun hb3 => ?_)
    · exact s_out
    · exact s_up (by omega)
  · unfold M.ref8_prefixLists_l2
    try simp only [Int.toNat_natCast]
    exact s_else (decide_eq_false (by omega)) rfl
noncomputable def S.ref8_prefixLists_l3 (a0 : List TPrefixList) (i1 : Nat) (i9 : Nat) : Option (Unit ⊕ Int) :=
  letS (S.ref8_ValidPrefixRule (((a0.getD i1 default).fRules).getD i9 default)) (fun r11 => bif !r11 then (some (.inr 1)) else none)
theorem s_ref8_prefixLists_l3 (a0 : List TPrefixList) (i1 : Nat) (ha0 : LL L_TPrefixList a0) (hi1 : i1 < a0.length) (i0 : Nat) : loopM (M.ref8_prefixLists_l3 a0 (i1 : Int)) (i0 : Int) = some (runN (S.ref8_prefixLists_l3 a0 i1) (.inl ()) i0 (((a0.getD i1 default).fRules).length - i0)) := by
  have hM := maxLen_eq
  have hni1 : a0.length ≤ maxLen := ha0.1
  have hni9 : ((a0.getD i1 default).fRules).length ≤ maxLen := (L_TPrefixList.fRules (LL.getD ha0 L_TPrefixList.dflt i1))
  refine loop_runN (n := ((a0.getD i1 default).fRules).length) (fun i9 hi9 => ?_) (fun m hm => ?_) i0
  · unfold M.ref8_prefixLists_l3 S.ref8_prefixLists_l3
    try simp only [Int.toNat_natCast]
    refine s_gd (all_c (dt (by omega)) (all_c (dt (by omega)) all_n))  ?_
    refine s_then (dt (by omega)) ?_
    refine s_bindN (s_ref8_ValidPrefixRule (((a0.getD i1 default).fRules).getD i9 default)) (fun r11 her11 => ?_)
    refine s_gd (all_c (dt (by omega)) (all_c (dt (by omega)) (all_c (dt (by omega)) (all_c (dt (by omega)) all_n)))) ?_
    refine s_ifN (fun hb6 => ?_) (fun hb6 => ?_)
    · exact s_out
    · exact s_up (by omega)
  · unfold M.ref8_prefixLists_l3
    try simp only [Int.toNat_natCast]
    refine s_gd (all_c (dt (by omega)) (all_c (dt (by omega)) all_n))  ?_
    exact s_else (decide_eq_false (by omega)) rfl
noncomputable def S.ref8_prefixLists_l1 (a0 : List TPrefixList) (i1 : Nat) : Option (Unit ⊕ Int) :=
  letS (S.ref4_Name ((a0.getD i1 default).fName)) (fun r3 => bif !r3 then (some (.inr 3)) else (letS (runN (S.ref8_prefixLists_l2 a0 i1) (.inl ()) 0 i1) (fun y6 => Sum.elim (fun _ => bif (((a0.getD i1 default).fRules).length : Int) == 0 then (some (.inr 1)) else (bif decide ((((a0.getD i1 default).fRules).length : Int) > 16) then (some (.inr 7)) else (letS (runN (S.ref8_prefixLists_l3 a0 i1) (.inl ()) 0 (((a0.getD i1 default).fRules).length)) (fun y12 => Sum.elim (fun _ => none) (fun y14 => some (.inr y14)) y12)))) (fun y8 => some (.inr y8)) y6)))
theorem s_ref8_prefixLists_l1 (a0 : List TPrefixList) (ha0 : LL L_TPrefixList a0) (i0 : Nat) : loopM (M.ref8_prefixLists_l1 a0) (i0 : Int) = some (runN (S.ref8_prefixLists_l1 a0) (.inl ()) i0 (a0.length - i0)) := by
  have hM := maxLen_eq
  have hni1 : a0.length ≤ maxLen := ha0.1
  refine loop_runN (n := a0.length) (fun i1 hi1 => ?_) (fun m hm => ?_) i0
  · unfold M.ref8_prefixLists_l1 S.ref8_prefixLists_l1
    try simp only [Int.toNat_natCast]
    refine s_then (dt (by omega)) ?_
    refine s_bindN (s_ref4_Name ((a0.getD i1 default).fName) (L_TPrefixList.fName (LL.getD ha0 L_TPrefixList.dflt i1))) (fun r3 her3 => ?_)
    refine s_gd (all_c (dt (by omega)) (all_c (dt (by omega)) all_n)) ?_
    refine s_ifN (fun hb2 => ?_) (fun hb2 => ?_)
    · exact s_out
    · refine s_bindN (s_ref8_prefixLists_l2 a0 i1 ha0 hi1 0) (fun y6 hey6 => ?_)
      refine s_elimN (fun _ hl => ?_) (fun y8 hly8 => ?_)
      · refine s_gd (all_c (dt (by omega)) (all_c (dt (by omega)) all_n)) ?_
        refine s_ifN (fun hb4 => ?_) (fun hb4 => ?_)
        · exact s_out
        · refine s_gd (all_c (dt (by omega)) (all_c (dt (by omega)) all_n)) ?_
          refine s_ifN (fun hb5 => ?_) (fun hb5 => ?_)
          · exact s_out
          · refine s_bindN (s_ref8_prefixLists_l3 a0 i1 ha0 hi1 0) (fun y12 hey12 => ?_)
            refine s_elimN (fun _ hl => ?_) (fun y14 hly14 => ?_)
            · exact s_up (by omega)
            · exact s_out
      · exact s_out
  · unfold M.ref8_prefixLists_l1
    try simp only [Int.toNat_natCast]
    exact s_else (decide_eq_false (by omega)) rfl
noncomputable def S.ref8_prefixLists (a0 : List TPrefixList) : Int :=
  bif decide ((a0.length : Int) > 8) then 7 else (letS (runN (S.ref8_prefixLists_l1 a0) (.inl ()) 0 a0.length) (fun y15 => Sum.elim (fun _ => 0) (fun y17 => y17) y15))
theorem s_ref8_prefixLists (a0 : List TPrefixList) (ha0 : LL L_TPrefixList a0) : M.ref8_prefixLists a0 = some (S.ref8_prefixLists a0) := by
  have hM := maxLen_eq
  unfold M.ref8_prefixLists S.ref8_prefixLists
  refine s_if (fun hb1 => ?_) (fun hb1 => ?_)
  · rfl
  · refine s_bind (s_ref8_prefixLists_l1 a0 ha0 0) (fun y15 hey15 => ?_)
    refine s_elim (fun _ hl => ?_) (fun y17 hly17 => ?_)
    · rfl
    · rfl
noncomputable def S.ref8_PrefixList_l1 (a0 : TRouter) (a1 : ByteArray) (i1 : Nat) : Option (Unit ⊕ Int) :=
  bif strEq ((a0.fLists.getD i1 default).fName) a1 then (some (.inr (i1 : Int))) else none
theorem s_ref8_PrefixList_l1 (a0 : TRouter) (a1 : ByteArray) (ha0 : L_TRouter a0) (ha1 : a1.size ≤ maxLen) (i0 : Nat) : loopM (M.ref8_PrefixList_l1 a0 a1) (i0 : Int) = some (runN (S.ref8_PrefixList_l1 a0 a1) (.inl ()) i0 (a0.fLists.length - i0)) := by
  have hM := maxLen_eq
  have hni1 : a0.fLists.length ≤ maxLen := (L_TRouter.fLists ha0).1
  refine loop_runN (n := a0.fLists.length) (fun i1 hi1 => ?_) (fun m hm => ?_) i0
  · unfold M.ref8_PrefixList_l1 S.ref8_PrefixList_l1
    try simp only [Int.toNat_natCast]
    refine s_then (dt (by omega)) ?_
    refine s_gd (all_c (dt (by omega)) (all_c (dt (by omega)) all_n)) ?_
    refine s_ifN (fun hb1 => ?_) (fun hb1 => ?_)
    · exact s_out
    · exact s_up (by omega)
  · unfold M.ref8_PrefixList_l1
    try simp only [Int.toNat_natCast]
    exact s_else (decide_eq_false (by omega)) rfl
noncomputable def S.ref8_PrefixList (a0 : TRouter) (a1 : ByteArray) : Int :=
  letS (runN (S.ref8_PrefixList_l1 a0 a1) (.inl ()) 0 a0.fLists.length) (fun y3 => Sum.elim (fun _ => -1) (fun y5 => y5) y3)
theorem s_ref8_PrefixList (a0 : TRouter) (a1 : ByteArray) (ha0 : L_TRouter a0) (ha1 : a1.size ≤ maxLen) : M.ref8_PrefixList a0 a1 = some (S.ref8_PrefixList a0 a1) := by
  have hM := maxLen_eq
  unfold M.ref8_PrefixList S.ref8_PrefixList
  refine s_bind (s_ref8_PrefixList_l1 a0 a1 ha0 ha1 0) (fun y3 hey3 => ?_)
  refine s_elim (fun _ hl => ?_) (fun y5 hly5 => ?_)
  · rfl
  · rfl
noncomputable def S.ref8_routeMaps_l2 (a0 : TRouter) (i1 : Nat) (i4 : Nat) : Option (Unit ⊕ Int) :=
  bif strEq ((a0.fMaps.getD i4 default).fName) ((a0.fMaps.getD i1 default).fName) then (some (.inr 4)) else none
theorem s_ref8_routeMaps_l2 (a0 : TRouter) (i1 : Nat) (ha0 : L_TRouter a0) (hi1 : i1 < a0.fMaps.length) (i0 : Nat) : loopM (M.ref8_routeMaps_l2 a0 (i1 : Int)) (i0 : Int) = some (runN (S.ref8_routeMaps_l2 a0 i1) (.inl ()) i0 (i1 - i0)) := by
  have hM := maxLen_eq
  have hni1 : a0.fMaps.length ≤ maxLen := (L_TRouter.fMaps ha0).1
  have hni4 : i1 ≤ maxLen := (by omega)
  refine loop_runN (n := i1) (fun i4 hi4 => ?_) (fun m hm => ?_) i0
  · unfold M.ref8_routeMaps_l2 S.ref8_routeMaps_l2
    try simp only [Int.toNat_natCast]
    refine s_then (dt (by omega)) ?_
    refine s_gd (all_c (dt (by omega)) (all_c (dt (by omega)) (all_c (dt (by omega)) (all_c (dt (by omega)) all_n)))) ?_
    refine s_ifN (fun hb3 => ?_) (fun hb3 => ?_)
    · exact s_out
    · exact s_up (by omega)
  · unfold M.ref8_routeMaps_l2
    try simp only [Int.toNat_natCast]
    exact s_else (decide_eq_false (by omega)) rfl
noncomputable def S.ref8_routeMaps_l3 (a0 : TRouter) (i1 : Nat) (i9 : Nat) : Option (Unit ⊕ Int) :=
  letS (bif (!strEq ((((a0.fMaps.getD i1 default).fClauses).getD i9 default).fList) (⟨#[]⟩ : ByteArray)) then S.ref8_PrefixList a0 ((((a0.fMaps.getD i1 default).fClauses).getD i9 default).fList) else default) (fun r11 => bif (!strEq ((((a0.fMaps.getD i1 default).fClauses).getD i9 default).fList) (⟨#[]⟩ : ByteArray)) && (decide (r11 < 0)) then (some (.inr 5)) else (letS (S.ref8_within ((((a0.fMaps.getD i1 default).fClauses).getD i9 default).fTag) (-1) 65535) (fun r12 => letS (bif (!(!r12)) then S.ref8_within ((((a0.fMaps.getD i1 default).fClauses).getD i9 default).fSetTag) (-1) 65535 else default) (fun r13 => letS (bif (!((!r12) || (!r13))) then S.ref8_within ((((a0.fMaps.getD i1 default).fClauses).getD i9 default).fSetMetric) (-1) 16777215 else default) (fun r14 => letS (bif (!(((!r12) || (!r13)) || (!r14))) then S.ref8_within ((((a0.fMaps.getD i1 default).fClauses).getD i9 default).fSetPref) (-1) 1000000 else default) (fun r15 => letS (bif (!((((!r12) || (!r13)) || (!r14)) || (!r15))) then S.ref8_within ((((a0.fMaps.getD i1 default).fClauses).getD i9 default).fPrepend) 0 8 else default) (fun r16 => bif ((((!r12) || (!r13)) || (!r14)) || (!r15)) || (!r16) then (some (.inr 1)) else none)))))))
theorem s_ref8_routeMaps_l3 (a0 : TRouter) (i1 : Nat) (ha0 : L_TRouter a0) (hi1 : i1 < a0.fMaps.length) (i0 : Nat) : loopM (M.ref8_routeMaps_l3 a0 (i1 : Int)) (i0 : Int) = some (runN (S.ref8_routeMaps_l3 a0 i1) (.inl ()) i0 (((a0.fMaps.getD i1 default).fClauses).length - i0)) := by
  have hM := maxLen_eq
  have hni1 : a0.fMaps.length ≤ maxLen := (L_TRouter.fMaps ha0).1
  have hni9 : ((a0.fMaps.getD i1 default).fClauses).length ≤ maxLen := (L_TRouteMap.fClauses (LL.getD (L_TRouter.fMaps ha0) L_TRouteMap.dflt i1)).1
  refine loop_runN (n := ((a0.fMaps.getD i1 default).fClauses).length) (fun i9 hi9 => ?_) (fun m hm => ?_) i0
  · unfold M.ref8_routeMaps_l3 S.ref8_routeMaps_l3
    try simp only [Int.toNat_natCast]
    refine s_gd (all_c (dt (by omega)) (all_c (dt (by omega)) all_n))  ?_
    refine s_then (dt (by omega)) ?_
    refine s_gd (all_c (dt (by omega)) (all_c (dt (by omega)) (all_c (dt (by omega)) (all_c (dt (by omega)) all_n)))) ?_
    refine s_bindN (s_gc fun hg => (s_ref8_PrefixList a0 ((((a0.fMaps.getD i1 default).fClauses).getD i9 default).fList) ha0 (L_TClause.fList (LL.getD (L_TRouteMap.fClauses (LL.getD (L_TRouter.fMaps ha0) L_TRouteMap.dflt i1)) L_TClause.dflt i9)))) (fun r11 her11 => ?_)
    refine s_ifN (fun hb6 => ?_) (fun hb6 => ?_)
    · exact s_out
    · refine s_bindN (s_ref8_within ((((a0.fMaps.getD i1 default).fClauses).getD i9 default).fTag) (-1) 65535) (fun r12 her12 => ?_)
      refine s_bindN (s_gc fun hg => (s_ref8_within ((((a0.fMaps.getD i1 default).fClauses).getD i9 default).fSetTag) (-1) 65535)) (fun r13 her13 => ?_)
      refine s_bindN (s_gc fun hg => (s_ref8_within ((((a0.fMaps.getD i1 default).fClauses).getD i9 default).fSetMetric) (-1) 16777215)) (fun r14 her14 => ?_)
      refine s_bindN (s_gc fun hg => (s_ref8_within ((((a0.fMaps.getD i1 default).fClauses).getD i9 default).fSetPref) (-1) 1000000)) (fun r15 her15 => ?_)
      refine s_bindN (s_gc fun hg => (s_ref8_within ((((a0.fMaps.getD i1 default).fClauses).getD i9 default).fPrepend) 0 8)) (fun r16 her16 => ?_)
      refine s_ifN (fun hb7 => ?_) (fun hb7 => ?_)
      · exact s_out
      · exact s_up (by omega)
  · unfold M.ref8_routeMaps_l3
    try simp only [Int.toNat_natCast]
    refine s_gd (all_c (dt (by omega)) (all_c (dt (by omega)) all_n))  ?_
    exact s_else (decide_eq_false (by omega)) rfl
noncomputable def S.ref8_routeMaps_l1 (a0 : TRouter) (i1 : Nat) : Option (Unit ⊕ Int) :=
  letS (S.ref4_Name ((a0.fMaps.getD i1 default).fName)) (fun r3 => bif !r3 then (some (.inr 3)) else (letS (runN (S.ref8_routeMaps_l2 a0 i1) (.inl ()) 0 i1) (fun y6 => Sum.elim (fun _ => bif (((a0.fMaps.getD i1 default).fClauses).length : Int) == 0 then (some (.inr 1)) else (bif decide ((((a0.fMaps.getD i1 default).fClauses).length : Int) > 8) then (some (.inr 7)) else (letS (runN (S.ref8_routeMaps_l3 a0 i1) (.inl ()) 0 (((a0.fMaps.getD i1 default).fClauses).length)) (fun y17 => Sum.elim (fun _ => none) (fun y19 => some (.inr y19)) y17)))) (fun y8 => some (.inr y8)) y6)))
theorem s_ref8_routeMaps_l1 (a0 : TRouter) (ha0 : L_TRouter a0) (i0 : Nat) : loopM (M.ref8_routeMaps_l1 a0) (i0 : Int) = some (runN (S.ref8_routeMaps_l1 a0) (.inl ()) i0 (a0.fMaps.length - i0)) := by
  have hM := maxLen_eq
  have hni1 : a0.fMaps.length ≤ maxLen := (L_TRouter.fMaps ha0).1
  refine loop_runN (n := a0.fMaps.length) (fun i1 hi1 => ?_) (fun m hm => ?_) i0
  · unfold M.ref8_routeMaps_l1 S.ref8_routeMaps_l1
    try simp only [Int.toNat_natCast]
    refine s_then (dt (by omega)) ?_
    refine s_bindN (s_ref4_Name ((a0.fMaps.getD i1 default).fName) (L_TRouteMap.fName (LL.getD (L_TRouter.fMaps ha0) L_TRouteMap.dflt i1))) (fun r3 her3 => ?_)
    refine s_gd (all_c (dt (by omega)) (all_c (dt (by omega)) all_n)) ?_
    refine s_ifN (fun hb2 => ?_) (fun hb2 => ?_)
    · exact s_out
    · refine s_bindN (s_ref8_routeMaps_l2 a0 i1 ha0 hi1 0) (fun y6 hey6 => ?_)
      refine s_elimN (fun _ hl => ?_) (fun y8 hly8 => ?_)
      · refine s_gd (all_c (dt (by omega)) (all_c (dt (by omega)) all_n)) ?_
        refine s_ifN (fun hb4 => ?_) (fun hb4 => ?_)
        · exact s_out
        · refine s_gd (all_c (dt (by omega)) (all_c (dt (by omega)) all_n)) ?_
          refine s_ifN (fun hb5 => ?_) (fun hb5 => ?_)
          · exact s_out
          · refine s_bindN (s_ref8_routeMaps_l3 a0 i1 ha0 hi1 0) (fun y17 hey17 => ?_)
            refine s_elimN (fun _ hl => ?_) (fun y19 hly19 => ?_)
            · exact s_up (by omega)
            · exact s_out
      · exact s_out
  · unfold M.ref8_routeMaps_l1
    try simp only [Int.toNat_natCast]
    exact s_else (decide_eq_false (by omega)) rfl
noncomputable def S.ref8_routeMaps (a0 : TRouter) : Int :=
  bif decide ((a0.fMaps.length : Int) > 8) then 7 else (letS (runN (S.ref8_routeMaps_l1 a0) (.inl ()) 0 a0.fMaps.length) (fun y20 => Sum.elim (fun _ => 0) (fun y22 => y22) y20))
theorem s_ref8_routeMaps (a0 : TRouter) (ha0 : L_TRouter a0) : M.ref8_routeMaps a0 = some (S.ref8_routeMaps a0) := by
  have hM := maxLen_eq
  unfold M.ref8_routeMaps S.ref8_routeMaps
  refine s_if (fun hb1 => ?_) (fun hb1 => ?_)
  · rfl
  · refine s_bind (s_ref8_routeMaps_l1 a0 ha0 0) (fun y20 hey20 => ?_)
    refine s_elim (fun _ hl => ?_) (fun y22 hly22 => ?_)
    · rfl
    · rfl
noncomputable def S.ref8_ports (a0 : TPortRange) : Bool :=
  ((decide (0 ≤ a0.fLo)) && (decide (a0.fLo ≤ a0.fHi))) && (decide (a0.fHi ≤ 65535))
theorem s_ref8_ports (a0 : TPortRange)  : M.ref8_ports a0 = some (S.ref8_ports a0) := by
  have hM := maxLen_eq
  unfold M.ref8_ports S.ref8_ports
  rfl
noncomputable def S.ref8_all (a0 : TPortRange) : Bool :=
  (a0.fLo == 0) && ((a0.fHi == 65535) && true)
theorem s_ref8_all (a0 : TPortRange)  : M.ref8_all a0 = some (S.ref8_all a0) := by
  have hM := maxLen_eq
  unfold M.ref8_all S.ref8_all
  rfl
noncomputable def S.ref8_ValidRule (a0 : TRule) : Bool :=
  letS (S.ref8_within a0.fProto (-1) 255) (fun r1 => letS (bif (!(((!r1) || ((bitD .and .u32 a0.fSrc.fAddr a0.fSrc.fMask) != 0)) || ((bitD .and .u32 a0.fDst.fAddr a0.fDst.fMask) != 0))) then S.ref8_ports a0.fSrcPorts else default) (fun r2 => letS (bif (!((((!r1) || ((bitD .and .u32 a0.fSrc.fAddr a0.fSrc.fMask) != 0)) || ((bitD .and .u32 a0.fDst.fAddr a0.fDst.fMask) != 0)) || (!r2))) then S.ref8_ports a0.fDstPorts else default) (fun r3 => bif ((((!r1) || ((bitD .and .u32 a0.fSrc.fAddr a0.fSrc.fMask) != 0)) || ((bitD .and .u32 a0.fDst.fAddr a0.fDst.fMask) != 0)) || (!r2)) || (!r3) then false else (letS (bif (!((a0.fProto == 6) || (a0.fProto == 17))) then S.ref8_all a0.fSrcPorts else default) (fun r4 => letS (bif ((!((a0.fProto == 6) || (a0.fProto == 17))) && r4) then S.ref8_all a0.fDstPorts else default) (fun r5 => ((a0.fProto == 6) || (a0.fProto == 17)) || (r4 && r5)))))))
theorem s_ref8_ValidRule (a0 : TRule)  : M.ref8_ValidRule a0 = some (S.ref8_ValidRule a0) := by
  have hM := maxLen_eq
  unfold M.ref8_ValidRule S.ref8_ValidRule
  refine s_bind (s_ref8_within a0.fProto (-1) 255) (fun r1 her1 => ?_)
  refine s_bind (s_gc fun hg => (s_ref8_ports a0.fSrcPorts)) (fun r2 her2 => ?_)
  refine s_bind (s_gc fun hg => (s_ref8_ports a0.fDstPorts)) (fun r3 her3 => ?_)
  refine s_if (fun hb1 => ?_) (fun hb1 => ?_)
  · rfl
  · refine s_bind (s_gc fun hg => (s_ref8_all a0.fSrcPorts)) (fun r4 her4 => ?_)
    refine s_bind (s_gc fun hg => (s_ref8_all a0.fDstPorts)) (fun r5 her5 => ?_)
    rfl
noncomputable def S.ref8_accessLists_l2 (a0 : List TACL) (i1 : Nat) (i4 : Nat) : Option (Unit ⊕ Int) :=
  bif strEq ((a0.getD i4 default).fName) ((a0.getD i1 default).fName) then (some (.inr 4)) else none
theorem s_ref8_accessLists_l2 (a0 : List TACL) (i1 : Nat) (ha0 : LL L_TACL a0) (hi1 : i1 < a0.length) (i0 : Nat) : loopM (M.ref8_accessLists_l2 a0 (i1 : Int)) (i0 : Int) = some (runN (S.ref8_accessLists_l2 a0 i1) (.inl ()) i0 (i1 - i0)) := by
  have hM := maxLen_eq
  have hni1 : a0.length ≤ maxLen := ha0.1
  have hni4 : i1 ≤ maxLen := (by omega)
  refine loop_runN (n := i1) (fun i4 hi4 => ?_) (fun m hm => ?_) i0
  · unfold M.ref8_accessLists_l2 S.ref8_accessLists_l2
    try simp only [Int.toNat_natCast]
    refine s_then (dt (by omega)) ?_
    refine s_gd (all_c (dt (by omega)) (all_c (dt (by omega)) (all_c (dt (by omega)) (all_c (dt (by omega)) all_n)))) ?_
    refine s_ifN (fun hb3 => ?_) (fun hb3 => ?_)
    · exact s_out
    · exact s_up (by omega)
  · unfold M.ref8_accessLists_l2
    try simp only [Int.toNat_natCast]
    exact s_else (decide_eq_false (by omega)) rfl
noncomputable def S.ref8_accessLists_l3 (a0 : List TACL) (i1 : Nat) (i9 : Nat) : Option (Unit ⊕ Int) :=
  letS (S.ref8_ValidRule (((a0.getD i1 default).fRules).getD i9 default)) (fun r11 => bif !r11 then (some (.inr 1)) else none)
theorem s_ref8_accessLists_l3 (a0 : List TACL) (i1 : Nat) (ha0 : LL L_TACL a0) (hi1 : i1 < a0.length) (i0 : Nat) : loopM (M.ref8_accessLists_l3 a0 (i1 : Int)) (i0 : Int) = some (runN (S.ref8_accessLists_l3 a0 i1) (.inl ()) i0 (((a0.getD i1 default).fRules).length - i0)) := by
  have hM := maxLen_eq
  have hni1 : a0.length ≤ maxLen := ha0.1
  have hni9 : ((a0.getD i1 default).fRules).length ≤ maxLen := (L_TACL.fRules (LL.getD ha0 L_TACL.dflt i1))
  refine loop_runN (n := ((a0.getD i1 default).fRules).length) (fun i9 hi9 => ?_) (fun m hm => ?_) i0
  · unfold M.ref8_accessLists_l3 S.ref8_accessLists_l3
    try simp only [Int.toNat_natCast]
    refine s_gd (all_c (dt (by omega)) (all_c (dt (by omega)) all_n))  ?_
    refine s_then (dt (by omega)) ?_
    refine s_bindN (s_ref8_ValidRule (((a0.getD i1 default).fRules).getD i9 default)) (fun r11 her11 => ?_)
    refine s_gd (all_c (dt (by omega)) (all_c (dt (by omega)) (all_c (dt (by omega)) (all_c (dt (by omega)) all_n)))) ?_
    refine s_ifN (fun hb6 => ?_) (fun hb6 => ?_)
    · exact s_out
    · exact s_up (by omega)
  · unfold M.ref8_accessLists_l3
    try simp only [Int.toNat_natCast]
    refine s_gd (all_c (dt (by omega)) (all_c (dt (by omega)) all_n))  ?_
    exact s_else (decide_eq_false (by omega)) rfl
noncomputable def S.ref8_accessLists_l1 (a0 : List TACL) (i1 : Nat) : Option (Unit ⊕ Int) :=
  letS (S.ref4_Name ((a0.getD i1 default).fName)) (fun r3 => bif !r3 then (some (.inr 3)) else (letS (runN (S.ref8_accessLists_l2 a0 i1) (.inl ()) 0 i1) (fun y6 => Sum.elim (fun _ => bif (((a0.getD i1 default).fRules).length : Int) == 0 then (some (.inr 1)) else (bif decide ((((a0.getD i1 default).fRules).length : Int) > 16) then (some (.inr 7)) else (letS (runN (S.ref8_accessLists_l3 a0 i1) (.inl ()) 0 (((a0.getD i1 default).fRules).length)) (fun y12 => Sum.elim (fun _ => none) (fun y14 => some (.inr y14)) y12)))) (fun y8 => some (.inr y8)) y6)))
theorem s_ref8_accessLists_l1 (a0 : List TACL) (ha0 : LL L_TACL a0) (i0 : Nat) : loopM (M.ref8_accessLists_l1 a0) (i0 : Int) = some (runN (S.ref8_accessLists_l1 a0) (.inl ()) i0 (a0.length - i0)) := by
  have hM := maxLen_eq
  have hni1 : a0.length ≤ maxLen := ha0.1
  refine loop_runN (n := a0.length) (fun i1 hi1 => ?_) (fun m hm => ?_) i0
  · unfold M.ref8_accessLists_l1 S.ref8_accessLists_l1
    try simp only [Int.toNat_natCast]
    refine s_then (dt (by omega)) ?_
    refine s_bindN (s_ref4_Name ((a0.getD i1 default).fName) (L_TACL.fName (LL.getD ha0 L_TACL.dflt i1))) (fun r3 her3 => ?_)
    refine s_gd (all_c (dt (by omega)) (all_c (dt (by omega)) all_n)) ?_
    refine s_ifN (fun hb2 => ?_) (fun hb2 => ?_)
    · exact s_out
    · refine s_bindN (s_ref8_accessLists_l2 a0 i1 ha0 hi1 0) (fun y6 hey6 => ?_)
      refine s_elimN (fun _ hl => ?_) (fun y8 hly8 => ?_)
      · refine s_gd (all_c (dt (by omega)) (all_c (dt (by omega)) all_n)) ?_
        refine s_ifN (fun hb4 => ?_) (fun hb4 => ?_)
        · exact s_out
        · refine s_gd (all_c (dt (by omega)) (all_c (dt (by omega)) all_n)) ?_
          refine s_ifN (fun hb5 => ?_) (fun hb5 => ?_)
          · exact s_out
          · refine s_bindN (s_ref8_accessLists_l3 a0 i1 ha0 hi1 0) (fun y12 hey12 => ?_)
            refine s_elimN (fun _ hl => ?_) (fun y14 hly14 => ?_)
            · exact s_up (by omega)
            · exact s_out
      · exact s_out
  · unfold M.ref8_accessLists_l1
    try simp only [Int.toNat_natCast]
    exact s_else (decide_eq_false (by omega)) rfl
noncomputable def S.ref8_accessLists (a0 : List TACL) : Int :=
  bif decide ((a0.length : Int) > 8) then 7 else (letS (runN (S.ref8_accessLists_l1 a0) (.inl ()) 0 a0.length) (fun y15 => Sum.elim (fun _ => 0) (fun y17 => y17) y15))
theorem s_ref8_accessLists (a0 : List TACL) (ha0 : LL L_TACL a0) : M.ref8_accessLists a0 = some (S.ref8_accessLists a0) := by
  have hM := maxLen_eq
  unfold M.ref8_accessLists S.ref8_accessLists
  refine s_if (fun hb1 => ?_) (fun hb1 => ?_)
  · rfl
  · refine s_bind (s_ref8_accessLists_l1 a0 ha0 0) (fun y15 hey15 => ?_)
    refine s_elim (fun _ hl => ?_) (fun y17 hly17 => ?_)
    · rfl
    · rfl
noncomputable def S.ref8_ACL_l1 (a0 : TRouter) (a1 : ByteArray) (i1 : Nat) : Option (Unit ⊕ Int) :=
  bif strEq ((a0.fACLs.getD i1 default).fName) a1 then (some (.inr (i1 : Int))) else none
theorem s_ref8_ACL_l1 (a0 : TRouter) (a1 : ByteArray) (ha0 : L_TRouter a0) (ha1 : a1.size ≤ maxLen) (i0 : Nat) : loopM (M.ref8_ACL_l1 a0 a1) (i0 : Int) = some (runN (S.ref8_ACL_l1 a0 a1) (.inl ()) i0 (a0.fACLs.length - i0)) := by
  have hM := maxLen_eq
  have hni1 : a0.fACLs.length ≤ maxLen := (L_TRouter.fACLs ha0).1
  refine loop_runN (n := a0.fACLs.length) (fun i1 hi1 => ?_) (fun m hm => ?_) i0
  · unfold M.ref8_ACL_l1 S.ref8_ACL_l1
    try simp only [Int.toNat_natCast]
    refine s_then (dt (by omega)) ?_
    refine s_gd (all_c (dt (by omega)) (all_c (dt (by omega)) all_n)) ?_
    refine s_ifN (fun hb1 => ?_) (fun hb1 => ?_)
    · exact s_out
    · exact s_up (by omega)
  · unfold M.ref8_ACL_l1
    try simp only [Int.toNat_natCast]
    exact s_else (decide_eq_false (by omega)) rfl
noncomputable def S.ref8_ACL (a0 : TRouter) (a1 : ByteArray) : Int :=
  letS (runN (S.ref8_ACL_l1 a0 a1) (.inl ()) 0 a0.fACLs.length) (fun y3 => Sum.elim (fun _ => -1) (fun y5 => y5) y3)
theorem s_ref8_ACL (a0 : TRouter) (a1 : ByteArray) (ha0 : L_TRouter a0) (ha1 : a1.size ≤ maxLen) : M.ref8_ACL a0 a1 = some (S.ref8_ACL a0 a1) := by
  have hM := maxLen_eq
  unfold M.ref8_ACL S.ref8_ACL
  refine s_bind (s_ref8_ACL_l1 a0 a1 ha0 ha1 0) (fun y3 hey3 => ?_)
  refine s_elim (fun _ hl => ?_) (fun y5 hly5 => ?_)
  · rfl
  · rfl
noncomputable def S.ref8_translations_k1 (a0 : TRouter) (i1 : Nat) (p3 : Bool) : Option (Unit ⊕ Int) :=
  bif !p3 then (some (.inr 1)) else (letS (bif (((a0.fNAT.getD i1 default).fKind) == 2) then S.ref8_ACL a0 ((a0.fNAT.getD i1 default).fList) else default) (fun r4 => bif (((a0.fNAT.getD i1 default).fKind) == 2) && (decide (r4 < 0)) then (some (.inr 5)) else none))
theorem s_ref8_translations_k1 (a0 : TRouter) (i1 : Nat) (p3 : Bool) (ha0 : L_TRouter a0) (hi1 : i1 < a0.fNAT.length) : M.ref8_translations_k1 a0 (i1 : Int) p3 = some (rdN (S.ref8_translations_k1 a0 i1 p3) i1) := by
  have hM := maxLen_eq
  have hni1 : a0.fNAT.length ≤ maxLen := (L_TRouter.fNAT ha0).1
  unfold M.ref8_translations_k1 S.ref8_translations_k1
  try simp only [Int.toNat_natCast]
  refine s_ifN (fun hb3 => ?_) (fun hb3 => ?_)
  · exact s_out
  · refine s_bindN (s_gc fun hg => (s_ref8_ACL a0 ((a0.fNAT.getD i1 default).fList) ha0 (L_TTranslation.fList (LL.getD (L_TRouter.fNAT ha0) L_TTranslation.dflt i1)))) (fun r4 her4 => ?_)
    refine s_ifN (fun hb4 => ?_) (fun hb4 => ?_)
    · exact s_out
    · exact s_up (by omega)
noncomputable def S.ref8_translations_l1 (a0 : TRouter) (i1 : Nat) : Option (Unit ⊕ Int) :=
  bif ((a0.fNAT.getD i1 default).fKind) == 1 then (S.ref8_translations_k1 a0 i1 (((((a0.fNAT.getD i1 default).fInside) != 0) && (((a0.fNAT.getD i1 default).fOutside) != 0)) && ((((a0.fNAT.getD i1 default).fKind) == ((a0.fNAT.getD i1 default).fKind)) && ((((a0.fNAT.getD i1 default).fInside) == ((a0.fNAT.getD i1 default).fInside)) && ((((a0.fNAT.getD i1 default).fOutside) == ((a0.fNAT.getD i1 default).fOutside)) && ((((a0.fNAT.getD i1 default).fProto) == 0) && ((((a0.fNAT.getD i1 default).fInsidePort) == 0) && ((((a0.fNAT.getD i1 default).fOutsidePort) == 0) && (strEq ((a0.fNAT.getD i1 default).fList) (⟨#[]⟩ : ByteArray) && ((((a0.fNAT.getD i1 default).fLo) == 0) && ((((a0.fNAT.getD i1 default).fHi) == 0) && true))))))))))) else (bif ((a0.fNAT.getD i1 default).fKind) == 2 then (S.ref8_translations_k1 a0 i1 ((((((a0.fNAT.getD i1 default).fLo) != 0) && (decide (((a0.fNAT.getD i1 default).fLo) ≤ ((a0.fNAT.getD i1 default).fHi)))) && (decide ((wr .u32 (((a0.fNAT.getD i1 default).fHi) - ((a0.fNAT.getD i1 default).fLo))) < 8))) && ((((a0.fNAT.getD i1 default).fKind) == ((a0.fNAT.getD i1 default).fKind)) && ((((a0.fNAT.getD i1 default).fInside) == 0) && ((((a0.fNAT.getD i1 default).fOutside) == 0) && ((((a0.fNAT.getD i1 default).fProto) == 0) && ((((a0.fNAT.getD i1 default).fInsidePort) == 0) && ((((a0.fNAT.getD i1 default).fOutsidePort) == 0) && (strEq ((a0.fNAT.getD i1 default).fList) ((a0.fNAT.getD i1 default).fList) && ((((a0.fNAT.getD i1 default).fLo) == ((a0.fNAT.getD i1 default).fLo)) && ((((a0.fNAT.getD i1 default).fHi) == ((a0.fNAT.getD i1 default).fHi)) && true))))))))))) else (bif ((a0.fNAT.getD i1 default).fKind) == 3 then (letS (bif (((((a0.fNAT.getD i1 default).fInside) != 0) && (((a0.fNAT.getD i1 default).fOutside) != 0)) && ((((a0.fNAT.getD i1 default).fProto) == 6) || (((a0.fNAT.getD i1 default).fProto) == 17))) then S.ref8_within ((a0.fNAT.getD i1 default).fInsidePort) 0 65535 else default) (fun r5 => letS (bif ((((((a0.fNAT.getD i1 default).fInside) != 0) && (((a0.fNAT.getD i1 default).fOutside) != 0)) && ((((a0.fNAT.getD i1 default).fProto) == 6) || (((a0.fNAT.getD i1 default).fProto) == 17))) && r5) then S.ref8_within ((a0.fNAT.getD i1 default).fOutsidePort) 0 65535 else default) (fun r6 => S.ref8_translations_k1 a0 i1 ((((((((((a0.fNAT.getD i1 default).fInside) != 0) && (((a0.fNAT.getD i1 default).fOutside) != 0)) && ((((a0.fNAT.getD i1 default).fProto) == 6) || (((a0.fNAT.getD i1 default).fProto) == 17))) && r5) && r6) && (strEq ((a0.fNAT.getD i1 default).fList) (⟨#[]⟩ : ByteArray))) && (((a0.fNAT.getD i1 default).fLo) == 0)) && (((a0.fNAT.getD i1 default).fHi) == 0))))) else (S.ref8_translations_k1 a0 i1 false)))
theorem s_ref8_translations_l1 (a0 : TRouter) (ha0 : L_TRouter a0) (i0 : Nat) : loopM (M.ref8_translations_l1 a0) (i0 : Int) = some (runN (S.ref8_translations_l1 a0) (.inl ()) i0 (a0.fNAT.length - i0)) := by
  have hM := maxLen_eq
  have hni1 : a0.fNAT.length ≤ maxLen := (L_TRouter.fNAT ha0).1
  refine loop_runN (n := a0.fNAT.length) (fun i1 hi1 => ?_) (fun m hm => ?_) i0
  · unfold M.ref8_translations_l1 S.ref8_translations_l1
    try simp only [Int.toNat_natCast]
    refine s_then (dt (by omega)) ?_
    refine s_gd (all_c (dt (by omega)) (all_c (dt (by omega)) all_n)) ?_
    refine s_ifN (fun hb2 => ?_) (fun hb2 => ?_)
    · exact s_ref8_translations_k1 a0 i1 (((((a0.fNAT.getD i1 default).fInside) != 0) && (((a0.fNAT.getD i1 default).fOutside) != 0)) && ((((a0.fNAT.getD i1 default).fKind) == ((a0.fNAT.getD i1 default).fKind)) && ((((a0.fNAT.getD i1 default).fInside) == ((a0.fNAT.getD i1 default).fInside)) && ((((a0.fNAT.getD i1 default).fOutside) == ((a0.fNAT.getD i1 default).fOutside)) && ((((a0.fNAT.getD i1 default).fProto) == 0) && ((((a0.fNAT.getD i1 default).fInsidePort) == 0) && ((((a0.fNAT.getD i1 default).fOutsidePort) == 0) && (strEq ((a0.fNAT.getD i1 default).fList) (⟨#[]⟩ : ByteArray) && ((((a0.fNAT.getD i1 default).fLo) == 0) && ((((a0.fNAT.getD i1 default).fHi) == 0) && true)))))))))) ha0 hi1
    · refine s_ifN (fun hb5 => ?_) (fun hb5 => ?_)
      · exact s_ref8_translations_k1 a0 i1 ((((((a0.fNAT.getD i1 default).fLo) != 0) && (decide (((a0.fNAT.getD i1 default).fLo) ≤ ((a0.fNAT.getD i1 default).fHi)))) && (decide ((wr .u32 (((a0.fNAT.getD i1 default).fHi) - ((a0.fNAT.getD i1 default).fLo))) < 8))) && ((((a0.fNAT.getD i1 default).fKind) == ((a0.fNAT.getD i1 default).fKind)) && ((((a0.fNAT.getD i1 default).fInside) == 0) && ((((a0.fNAT.getD i1 default).fOutside) == 0) && ((((a0.fNAT.getD i1 default).fProto) == 0) && ((((a0.fNAT.getD i1 default).fInsidePort) == 0) && ((((a0.fNAT.getD i1 default).fOutsidePort) == 0) && (strEq ((a0.fNAT.getD i1 default).fList) ((a0.fNAT.getD i1 default).fList) && ((((a0.fNAT.getD i1 default).fLo) == ((a0.fNAT.getD i1 default).fLo)) && ((((a0.fNAT.getD i1 default).fHi) == ((a0.fNAT.getD i1 default).fHi)) && true)))))))))) ha0 hi1
      · refine s_ifN (fun hb6 => ?_) (fun hb6 => ?_)
        · refine s_bindN (s_gc fun hg => (s_ref8_within ((a0.fNAT.getD i1 default).fInsidePort) 0 65535)) (fun r5 her5 => ?_)
          refine s_bindN (s_gc fun hg => (s_ref8_within ((a0.fNAT.getD i1 default).fOutsidePort) 0 65535)) (fun r6 her6 => ?_)
          exact s_ref8_translations_k1 a0 i1 ((((((((((a0.fNAT.getD i1 default).fInside) != 0) && (((a0.fNAT.getD i1 default).fOutside) != 0)) && ((((a0.fNAT.getD i1 default).fProto) == 6) || (((a0.fNAT.getD i1 default).fProto) == 17))) && r5) && r6) && (strEq ((a0.fNAT.getD i1 default).fList) (⟨#[]⟩ : ByteArray))) && (((a0.fNAT.getD i1 default).fLo) == 0)) && (((a0.fNAT.getD i1 default).fHi) == 0)) ha0 hi1
        · exact s_ref8_translations_k1 a0 i1 false ha0 hi1
  · unfold M.ref8_translations_l1
    try simp only [Int.toNat_natCast]
    exact s_else (decide_eq_false (by omega)) rfl
noncomputable def S.ref8_translations (a0 : TRouter) : Int :=
  bif decide ((a0.fNAT.length : Int) > 8) then 7 else (letS (runN (S.ref8_translations_l1 a0) (.inl ()) 0 a0.fNAT.length) (fun y7 => Sum.elim (fun _ => 0) (fun y9 => y9) y7))
theorem s_ref8_translations (a0 : TRouter) (ha0 : L_TRouter a0) : M.ref8_translations a0 = some (S.ref8_translations a0) := by
  have hM := maxLen_eq
  unfold M.ref8_translations S.ref8_translations
  refine s_if (fun hb1 => ?_) (fun hb1 => ?_)
  · rfl
  · refine s_bind (s_ref8_translations_l1 a0 ha0 0) (fun y7 hey7 => ?_)
    refine s_elim (fun _ hl => ?_) (fun y9 hly9 => ?_)
    · rfl
    · rfl
noncomputable def S.ref8_filters_l1 (a0 : TRouter) (i1 : Nat) : Option (Unit ⊕ Int) :=
  letS (bif (!strEq ((a0.fInterfaces.getD i1 default).fIn) (⟨#[]⟩ : ByteArray)) then S.ref8_ACL a0 ((a0.fInterfaces.getD i1 default).fIn) else default) (fun r3 => letS (bif ((!((!strEq ((a0.fInterfaces.getD i1 default).fIn) (⟨#[]⟩ : ByteArray)) && (decide (r3 < 0)))) && (!strEq ((a0.fInterfaces.getD i1 default).fOut) (⟨#[]⟩ : ByteArray))) then S.ref8_ACL a0 ((a0.fInterfaces.getD i1 default).fOut) else default) (fun r4 => bif ((!strEq ((a0.fInterfaces.getD i1 default).fIn) (⟨#[]⟩ : ByteArray)) && (decide (r3 < 0))) || ((!strEq ((a0.fInterfaces.getD i1 default).fOut) (⟨#[]⟩ : ByteArray)) && (decide (r4 < 0))) then (some (.inr 5)) else none))
theorem s_ref8_filters_l1 (a0 : TRouter) (ha0 : L_TRouter a0) (i0 : Nat) : loopM (M.ref8_filters_l1 a0) (i0 : Int) = some (runN (S.ref8_filters_l1 a0) (.inl ()) i0 (a0.fInterfaces.length - i0)) := by
  have hM := maxLen_eq
  have hni1 : a0.fInterfaces.length ≤ maxLen := (L_TRouter.fInterfaces ha0).1
  refine loop_runN (n := a0.fInterfaces.length) (fun i1 hi1 => ?_) (fun m hm => ?_) i0
  · unfold M.ref8_filters_l1 S.ref8_filters_l1
    try simp only [Int.toNat_natCast]
    refine s_then (dt (by omega)) ?_
    refine s_gd (all_c (dt (by omega)) (all_c (dt (by omega)) all_n)) ?_
    refine s_bindN (s_gc fun hg => (s_ref8_ACL a0 ((a0.fInterfaces.getD i1 default).fIn) ha0 (L_TInterface.fIn (LL.getD (L_TRouter.fInterfaces ha0) L_TInterface.dflt i1)))) (fun r3 her3 => ?_)
    refine s_bindN (s_gc fun hg => (s_ref8_ACL a0 ((a0.fInterfaces.getD i1 default).fOut) ha0 (L_TInterface.fOut (LL.getD (L_TRouter.fInterfaces ha0) L_TInterface.dflt i1)))) (fun r4 her4 => ?_)
    refine s_ifN (fun hb1 => ?_) (fun hb1 => ?_)
    · exact s_out
    · exact s_up (by omega)
  · unfold M.ref8_filters_l1
    try simp only [Int.toNat_natCast]
    exact s_else (decide_eq_false (by omega)) rfl
noncomputable def S.ref8_filters (a0 : TRouter) : Int :=
  letS (runN (S.ref8_filters_l1 a0) (.inl ()) 0 a0.fInterfaces.length) (fun y5 => Sum.elim (fun _ => 0) (fun y7 => y7) y5)
theorem s_ref8_filters (a0 : TRouter) (ha0 : L_TRouter a0) : M.ref8_filters a0 = some (S.ref8_filters a0) := by
  have hM := maxLen_eq
  unfold M.ref8_filters S.ref8_filters
  refine s_bind (s_ref8_filters_l1 a0 ha0 0) (fun y5 hey5 => ?_)
  refine s_elim (fun _ hl => ?_) (fun y7 hly7 => ?_)
  · rfl
  · rfl
noncomputable def S.ref8_Address_l1 (a0 : TRouter) (a1 : Int) (i1 : Nat) : Option (Unit ⊕ Int) :=
  bif (((a0.fInterfaces.getD i1 default).fLen) != 0) && (((a0.fInterfaces.getD i1 default).fAddr) == a1) then (some (.inr (i1 : Int))) else none
theorem s_ref8_Address_l1 (a0 : TRouter) (a1 : Int) (ha0 : L_TRouter a0) (i0 : Nat) : loopM (M.ref8_Address_l1 a0 a1) (i0 : Int) = some (runN (S.ref8_Address_l1 a0 a1) (.inl ()) i0 (a0.fInterfaces.length - i0)) := by
  have hM := maxLen_eq
  have hni1 : a0.fInterfaces.length ≤ maxLen := (L_TRouter.fInterfaces ha0).1
  refine loop_runN (n := a0.fInterfaces.length) (fun i1 hi1 => ?_) (fun m hm => ?_) i0
  · unfold M.ref8_Address_l1 S.ref8_Address_l1
    try simp only [Int.toNat_natCast]
    refine s_then (dt (by omega)) ?_
    refine s_gd (all_c (dt (by omega)) (all_c (dt (by omega)) (all_c (s_guard fun hg => (dt (by first | omega | (simp; omega) | (simp at *; omega)))) (all_c (s_guard fun hg => (dt (by first | omega | (simp; omega) | (simp at *; omega)))) all_n)))) ?_
    refine s_ifN (fun hb1 => ?_) (fun hb1 => ?_)
    · exact s_out
    · exact s_up (by omega)
  · unfold M.ref8_Address_l1
    try simp only [Int.toNat_natCast]
    exact s_else (decide_eq_false (by omega)) rfl
noncomputable def S.ref8_Address (a0 : TRouter) (a1 : Int) : Int :=
  letS (runN (S.ref8_Address_l1 a0 a1) (.inl ()) 0 a0.fInterfaces.length) (fun y3 => Sum.elim (fun _ => -1) (fun y5 => y5) y3)
theorem s_ref8_Address (a0 : TRouter) (a1 : Int) (ha0 : L_TRouter a0) : M.ref8_Address a0 a1 = some (S.ref8_Address a0 a1) := by
  have hM := maxLen_eq
  unfold M.ref8_Address S.ref8_Address
  refine s_bind (s_ref8_Address_l1 a0 a1 ha0 0) (fun y3 hey3 => ?_)
  refine s_elim (fun _ hl => ?_) (fun y5 hly5 => ?_)
  · rfl
  · rfl
noncomputable def S.ref8_Interface_l1 (a0 : TRouter) (a1 : ByteArray) (i1 : Nat) : Option (Unit ⊕ Int) :=
  bif strEq ((a0.fInterfaces.getD i1 default).fName) a1 then (some (.inr (i1 : Int))) else none
theorem s_ref8_Interface_l1 (a0 : TRouter) (a1 : ByteArray) (ha0 : L_TRouter a0) (ha1 : a1.size ≤ maxLen) (i0 : Nat) : loopM (M.ref8_Interface_l1 a0 a1) (i0 : Int) = some (runN (S.ref8_Interface_l1 a0 a1) (.inl ()) i0 (a0.fInterfaces.length - i0)) := by
  have hM := maxLen_eq
  have hni1 : a0.fInterfaces.length ≤ maxLen := (L_TRouter.fInterfaces ha0).1
  refine loop_runN (n := a0.fInterfaces.length) (fun i1 hi1 => ?_) (fun m hm => ?_) i0
  · unfold M.ref8_Interface_l1 S.ref8_Interface_l1
    try simp only [Int.toNat_natCast]
    refine s_then (dt (by omega)) ?_
    refine s_gd (all_c (dt (by omega)) (all_c (dt (by omega)) all_n)) ?_
    refine s_ifN (fun hb1 => ?_) (fun hb1 => ?_)
    · exact s_out
    · exact s_up (by omega)
  · unfold M.ref8_Interface_l1
    try simp only [Int.toNat_natCast]
    exact s_else (decide_eq_false (by omega)) rfl
noncomputable def S.ref8_Interface (a0 : TRouter) (a1 : ByteArray) : Int :=
  letS (runN (S.ref8_Interface_l1 a0 a1) (.inl ()) 0 a0.fInterfaces.length) (fun y3 => Sum.elim (fun _ => -1) (fun y5 => y5) y3)
theorem s_ref8_Interface (a0 : TRouter) (a1 : ByteArray) (ha0 : L_TRouter a0) (ha1 : a1.size ≤ maxLen) : M.ref8_Interface a0 a1 = some (S.ref8_Interface a0 a1) := by
  have hM := maxLen_eq
  unfold M.ref8_Interface S.ref8_Interface
  refine s_bind (s_ref8_Interface_l1 a0 a1 ha0 ha1 0) (fun y3 hey3 => ?_)
  refine s_elim (fun _ hl => ?_) (fun y5 hly5 => ?_)
  · rfl
  · rfl
theorem rng_ref8_Interface (a0 : TRouter) (a1 : ByteArray) : S.ref8_Interface a0 a1 < (a0.fInterfaces.length : Int) := by
  unfold S.ref8_Interface
  simp only [letS]
  exact idx_lt (fun i => by unfold S.ref8_Interface_l1; cases strEq (a0.fInterfaces.getD i default).fName a1 <;> simp) _
noncomputable def S.ref8_statics_l2 (a0 : TRouter) (i1 : Nat) (i11 : Nat) : Option (Unit ⊕ Int) :=
  bif (((((a0.fStatics.getD i11 default).fPrefix).fAddr) == (((a0.fStatics.getD i1 default).fPrefix).fAddr)) && (((((a0.fStatics.getD i11 default).fPrefix).fLen) == (((a0.fStatics.getD i1 default).fPrefix).fLen)) && true)) && (((a0.fStatics.getD i11 default).fAdmin) == ((a0.fStatics.getD i1 default).fAdmin)) then (some (.inr 6)) else none
theorem s_ref8_statics_l2 (a0 : TRouter) (i1 : Nat) (ha0 : L_TRouter a0) (hi1 : i1 < a0.fStatics.length) (i0 : Nat) : loopM (M.ref8_statics_l2 a0 (i1 : Int)) (i0 : Int) = some (runN (S.ref8_statics_l2 a0 i1) (.inl ()) i0 (i1 - i0)) := by
  have hM := maxLen_eq
  have hni1 : a0.fStatics.length ≤ maxLen := (L_TRouter.fStatics ha0).1
  have hni11 : i1 ≤ maxLen := (by omega)
  refine loop_runN (n := i1) (fun i11 hi11 => ?_) (fun m hm => ?_) i0
  · unfold M.ref8_statics_l2 S.ref8_statics_l2
    try simp only [Int.toNat_natCast]
    refine s_then (dt (by omega)) ?_
    refine s_gd (all_c (dt (by omega)) (all_c (dt (by omega)) (all_c (s_guard fun hg => (dt (by first | omega | (simp; omega) | (simp at *; omega)))) (all_c (s_guard fun hg => (dt (by first | omega | (simp; omega) | (simp at *; omega)))) all_n)))) ?_
    refine s_ifN (fun hb9 => ?_) (fun hb9 => ?_)
    · exact s_out
    · exact s_up (by omega)
  · unfold M.ref8_statics_l2
    try simp only [Int.toNat_natCast]
    exact s_else (decide_eq_false (by omega)) rfl
noncomputable def S.ref8_statics_k4 (a0 : TRouter) (i1 : Nat) (_p10 : Unit) : Option (Unit ⊕ Int) :=
  letS (runN (S.ref8_statics_l2 a0 i1) (.inl ()) 0 i1) (fun y13 => Sum.elim (fun _ => none) (fun y15 => some (.inr y15)) y13)
theorem s_ref8_statics_k4 (a0 : TRouter) (i1 : Nat) (_p10 : Unit) (ha0 : L_TRouter a0) (hi1 : i1 < a0.fStatics.length) : M.ref8_statics_k4 a0 (i1 : Int) _p10 = some (rdN (S.ref8_statics_k4 a0 i1 _p10) i1) := by
  have hM := maxLen_eq
  have hni1 : a0.fStatics.length ≤ maxLen := (L_TRouter.fStatics ha0).1
  unfold M.ref8_statics_k4 S.ref8_statics_k4
  try simp only [Int.toNat_natCast]
  refine s_bindN (s_ref8_statics_l2 a0 i1 ha0 hi1 0) (fun y13 hey13 => ?_)
  refine s_elimN (fun _ hl => ?_) (fun y15 hly15 => ?_)
  · exact s_up (by omega)
  · exact s_out
noncomputable def S.ref8_statics_k3 (a0 : TRouter) (i1 : Nat) (p5 : Int) : Option (Unit ⊕ Int) :=
  letS (S.ref4_Valid ((a0.fStatics.getD i1 default).fPrefix)) (fun r6 => letS (bif ((!((!r6) || (p5 != 1))) && (((a0.fStatics.getD i1 default).fNext) != 0)) then S.ref8_Address a0 ((a0.fStatics.getD i1 default).fNext) else default) (fun r7 => letS (bif (!(((!r6) || (p5 != 1)) || ((((a0.fStatics.getD i1 default).fNext) != 0) && (decide (r7 ≥ 0))))) then S.ref8_within ((a0.fStatics.getD i1 default).fAdmin) 1 255 else default) (fun r8 => letS (bif (!((((!r6) || (p5 != 1)) || ((((a0.fStatics.getD i1 default).fNext) != 0) && (decide (r7 ≥ 0)))) || (!r8))) then S.ref8_within ((a0.fStatics.getD i1 default).fTag) 0 65535 else default) (fun r9 => bif ((((!r6) || (p5 != 1)) || ((((a0.fStatics.getD i1 default).fNext) != 0) && (decide (r7 ≥ 0)))) || (!r8)) || (!r9) then (some (.inr 1)) else (bif !strEq ((a0.fStatics.getD i1 default).fIface) (⟨#[]⟩ : ByteArray) then (letS (S.ref8_Interface a0 ((a0.fStatics.getD i1 default).fIface)) (fun r16 => bif decide (r16 < 0) then (some (.inr 5)) else (bif ((a0.fInterfaces.getD r16.toNat default).fLen) == 0 then (some (.inr 1)) else (S.ref8_statics_k4 a0 i1 ())))) else (S.ref8_statics_k4 a0 i1 ()))))))
theorem s_ref8_statics_k3 (a0 : TRouter) (i1 : Nat) (p5 : Int) (ha0 : L_TRouter a0) (hi1 : i1 < a0.fStatics.length) : M.ref8_statics_k3 a0 (i1 : Int) p5 = some (rdN (S.ref8_statics_k3 a0 i1 p5) i1) := by
  have hM := maxLen_eq
  have hni1 : a0.fStatics.length ≤ maxLen := (L_TRouter.fStatics ha0).1
  unfold M.ref8_statics_k3 S.ref8_statics_k3
  try simp only [Int.toNat_natCast]
  refine s_bindN (s_ref4_Valid ((a0.fStatics.getD i1 default).fPrefix)) (fun r6 her6 => ?_)
  refine s_bindN (s_gc fun hg => (s_ref8_Address a0 ((a0.fStatics.getD i1 default).fNext) ha0)) (fun r7 her7 => ?_)
  refine s_bindN (s_gc fun hg => (s_ref8_within ((a0.fStatics.getD i1 default).fAdmin) 1 255)) (fun r8 her8 => ?_)
  refine s_bindN (s_gc fun hg => (s_ref8_within ((a0.fStatics.getD i1 default).fTag) 0 65535)) (fun r9 her9 => ?_)
  refine s_ifN (fun hb5 => ?_) (fun hb5 => ?_)
  · exact s_out
  · refine s_ifN (fun hb6 => ?_) (fun hb6 => ?_)
    · refine s_bindN (s_ref8_Interface a0 ((a0.fStatics.getD i1 default).fIface) ha0 (L_TStaticRoute.fIface (LL.getD (L_TRouter.fStatics ha0) L_TStaticRoute.dflt i1))) (fun r16 her16 => ?_)
      have hrr16 := rng_ref8_Interface a0 ((a0.fStatics.getD i1 default).fIface)
      refine s_ifN (fun hb7 => ?_) (fun hb7 => ?_)
      · exact s_out
      · refine s_gd (all_c (dt (by first | omega | (simp; omega) | (simp at *; omega))) (all_c (dt (by first | omega | (simp; omega) | (simp at *; omega))) all_n)) ?_
        refine s_ifN (fun hb8 => ?_) (fun hb8 => ?_)
        · exact s_out
        · exact s_ref8_statics_k4 a0 i1 () ha0 hi1
    · exact s_ref8_statics_k4 a0 i1 () ha0 hi1
noncomputable def S.ref8_statics_k2 (a0 : TRouter) (i1 : Nat) (p4 : Int) : Option (Unit ⊕ Int) :=
  bif (a0.fStatics.getD i1 default).fDiscard then (S.ref8_statics_k3 a0 i1 (wr .i64 (p4 + 1))) else (S.ref8_statics_k3 a0 i1 p4)
theorem s_ref8_statics_k2 (a0 : TRouter) (i1 : Nat) (p4 : Int) (ha0 : L_TRouter a0) (hi1 : i1 < a0.fStatics.length) : M.ref8_statics_k2 a0 (i1 : Int) p4 = some (rdN (S.ref8_statics_k2 a0 i1 p4) i1) := by
  have hM := maxLen_eq
  have hni1 : a0.fStatics.length ≤ maxLen := (L_TRouter.fStatics ha0).1
  unfold M.ref8_statics_k2 S.ref8_statics_k2
  try simp only [Int.toNat_natCast]
  refine s_ifN (fun hb4 => ?_) (fun hb4 => ?_)
  · exact s_ref8_statics_k3 a0 i1 (wr .i64 (p4 + 1)) ha0 hi1
  · exact s_ref8_statics_k3 a0 i1 p4 ha0 hi1
noncomputable def S.ref8_statics_k1 (a0 : TRouter) (i1 : Nat) (p3 : Int) : Option (Unit ⊕ Int) :=
  bif !strEq ((a0.fStatics.getD i1 default).fIface) (⟨#[]⟩ : ByteArray) then (S.ref8_statics_k2 a0 i1 (wr .i64 (p3 + 1))) else (S.ref8_statics_k2 a0 i1 p3)
theorem s_ref8_statics_k1 (a0 : TRouter) (i1 : Nat) (p3 : Int) (ha0 : L_TRouter a0) (hi1 : i1 < a0.fStatics.length) : M.ref8_statics_k1 a0 (i1 : Int) p3 = some (rdN (S.ref8_statics_k1 a0 i1 p3) i1) := by
  have hM := maxLen_eq
  have hni1 : a0.fStatics.length ≤ maxLen := (L_TRouter.fStatics ha0).1
  unfold M.ref8_statics_k1 S.ref8_statics_k1
  try simp only [Int.toNat_natCast]
  refine s_ifN (fun hb3 => ?_) (fun hb3 => ?_)
  · exact s_ref8_statics_k2 a0 i1 (wr .i64 (p3 + 1)) ha0 hi1
  · exact s_ref8_statics_k2 a0 i1 p3 ha0 hi1
noncomputable def S.ref8_statics_l1 (a0 : TRouter) (i1 : Nat) : Option (Unit ⊕ Int) :=
  bif ((a0.fStatics.getD i1 default).fNext) != 0 then (S.ref8_statics_k1 a0 i1 1) else (S.ref8_statics_k1 a0 i1 0)
theorem s_ref8_statics_l1 (a0 : TRouter) (ha0 : L_TRouter a0) (i0 : Nat) : loopM (M.ref8_statics_l1 a0) (i0 : Int) = some (runN (S.ref8_statics_l1 a0) (.inl ()) i0 (a0.fStatics.length - i0)) := by
  have hM := maxLen_eq
  have hni1 : a0.fStatics.length ≤ maxLen := (L_TRouter.fStatics ha0).1
  refine loop_runN (n := a0.fStatics.length) (fun i1 hi1 => ?_) (fun m hm => ?_) i0
  · unfold M.ref8_statics_l1 S.ref8_statics_l1
    try simp only [Int.toNat_natCast]
    refine s_then (dt (by omega)) ?_
    refine s_gd (all_c (dt (by omega)) (all_c (dt (by omega)) all_n)) ?_
    refine s_ifN (fun hb2 => ?_) (fun hb2 => ?_)
    · exact s_ref8_statics_k1 a0 i1 1 ha0 hi1
    · exact s_ref8_statics_k1 a0 i1 0 ha0 hi1
  · unfold M.ref8_statics_l1
    try simp only [Int.toNat_natCast]
    exact s_else (decide_eq_false (by omega)) rfl
noncomputable def S.ref8_statics (a0 : TRouter) : Int :=
  bif decide ((a0.fStatics.length : Int) > 16) then 7 else (letS (runN (S.ref8_statics_l1 a0) (.inl ()) 0 a0.fStatics.length) (fun y17 => Sum.elim (fun _ => 0) (fun y19 => y19) y17))
theorem s_ref8_statics (a0 : TRouter) (ha0 : L_TRouter a0) : M.ref8_statics a0 = some (S.ref8_statics a0) := by
  have hM := maxLen_eq
  unfold M.ref8_statics S.ref8_statics
  refine s_if (fun hb1 => ?_) (fun hb1 => ?_)
  · rfl
  · refine s_bind (s_ref8_statics_l1 a0 ha0 0) (fun y17 hey17 => ?_)
    refine s_elim (fun _ hl => ?_) (fun y19 hly19 => ?_)
    · rfl
    · rfl
noncomputable def S.ref8_RouteMap_l1 (a0 : TRouter) (a1 : ByteArray) (i1 : Nat) : Option (Unit ⊕ Int) :=
  bif strEq ((a0.fMaps.getD i1 default).fName) a1 then (some (.inr (i1 : Int))) else none
theorem s_ref8_RouteMap_l1 (a0 : TRouter) (a1 : ByteArray) (ha0 : L_TRouter a0) (ha1 : a1.size ≤ maxLen) (i0 : Nat) : loopM (M.ref8_RouteMap_l1 a0 a1) (i0 : Int) = some (runN (S.ref8_RouteMap_l1 a0 a1) (.inl ()) i0 (a0.fMaps.length - i0)) := by
  have hM := maxLen_eq
  have hni1 : a0.fMaps.length ≤ maxLen := (L_TRouter.fMaps ha0).1
  refine loop_runN (n := a0.fMaps.length) (fun i1 hi1 => ?_) (fun m hm => ?_) i0
  · unfold M.ref8_RouteMap_l1 S.ref8_RouteMap_l1
    try simp only [Int.toNat_natCast]
    refine s_then (dt (by omega)) ?_
    refine s_gd (all_c (dt (by omega)) (all_c (dt (by omega)) all_n)) ?_
    refine s_ifN (fun hb1 => ?_) (fun hb1 => ?_)
    · exact s_out
    · exact s_up (by omega)
  · unfold M.ref8_RouteMap_l1
    try simp only [Int.toNat_natCast]
    exact s_else (decide_eq_false (by omega)) rfl
noncomputable def S.ref8_RouteMap (a0 : TRouter) (a1 : ByteArray) : Int :=
  letS (runN (S.ref8_RouteMap_l1 a0 a1) (.inl ()) 0 a0.fMaps.length) (fun y3 => Sum.elim (fun _ => -1) (fun y5 => y5) y3)
theorem s_ref8_RouteMap (a0 : TRouter) (a1 : ByteArray) (ha0 : L_TRouter a0) (ha1 : a1.size ≤ maxLen) : M.ref8_RouteMap a0 a1 = some (S.ref8_RouteMap a0 a1) := by
  have hM := maxLen_eq
  unfold M.ref8_RouteMap S.ref8_RouteMap
  refine s_bind (s_ref8_RouteMap_l1 a0 a1 ha0 ha1 0) (fun y3 hey3 => ?_)
  refine s_elim (fun _ hl => ?_) (fun y5 hly5 => ?_)
  · rfl
  · rfl
noncomputable def S.ref8_redistributions_l2 (a1 : List TRedist) (i1 : Nat) (i7 : Nat) : Option (Unit ⊕ Int) :=
  bif ((a1.getD i7 default).fFrom) == ((a1.getD i1 default).fFrom) then (some (.inr 4)) else none
theorem s_ref8_redistributions_l2 (a1 : List TRedist) (i1 : Nat) (ha1 : LL L_TRedist a1) (hi1 : i1 < a1.length) (i0 : Nat) : loopM (M.ref8_redistributions_l2 a1 (i1 : Int)) (i0 : Int) = some (runN (S.ref8_redistributions_l2 a1 i1) (.inl ()) i0 (i1 - i0)) := by
  have hM := maxLen_eq
  have hni1 : a1.length ≤ maxLen := ha1.1
  have hni7 : i1 ≤ maxLen := (by omega)
  refine loop_runN (n := i1) (fun i7 hi7 => ?_) (fun m hm => ?_) i0
  · unfold M.ref8_redistributions_l2 S.ref8_redistributions_l2
    try simp only [Int.toNat_natCast]
    refine s_then (dt (by omega)) ?_
    refine s_gd (all_c (dt (by omega)) (all_c (dt (by omega)) all_n)) ?_
    refine s_ifN (fun hb5 => ?_) (fun hb5 => ?_)
    · exact s_out
    · exact s_up (by omega)
  · unfold M.ref8_redistributions_l2
    try simp only [Int.toNat_natCast]
    exact s_else (decide_eq_false (by omega)) rfl
noncomputable def S.ref8_redistributions_l1 (a0 : TRouter) (a1 : List TRedist) (a2 : Int) (a3 : Int) (a4 : Int) (i1 : Nat) : Option (Unit ⊕ Int) :=
  letS (S.ref8_within ((a1.getD i1 default).fFrom) 1 5) (fun r3 => letS (bif (!((!r3) || (((a1.getD i1 default).fFrom) == a2))) then S.ref8_within ((a1.getD i1 default).fMetric) a3 a4 else default) (fun r4 => letS (bif (!(((!r3) || (((a1.getD i1 default).fFrom) == a2)) || (!r4))) then S.ref8_within ((a1.getD i1 default).fTag) 0 65535 else default) (fun r5 => bif (((!r3) || (((a1.getD i1 default).fFrom) == a2)) || (!r4)) || (!r5) then (some (.inr 1)) else (bif (((a2 == 3) && (((a1.getD i1 default).fType) != 1)) && (((a1.getD i1 default).fType) != 2)) || ((a2 != 3) && (((a1.getD i1 default).fType) != 0)) then (some (.inr 1)) else (letS (bif (!strEq ((a1.getD i1 default).fMap) (⟨#[]⟩ : ByteArray)) then S.ref8_RouteMap a0 ((a1.getD i1 default).fMap) else default) (fun r6 => bif (!strEq ((a1.getD i1 default).fMap) (⟨#[]⟩ : ByteArray)) && (decide (r6 < 0)) then (some (.inr 5)) else (letS (runN (S.ref8_redistributions_l2 a1 i1) (.inl ()) 0 i1) (fun y9 => Sum.elim (fun _ => none) (fun y11 => some (.inr y11)) y9))))))))
theorem s_ref8_redistributions_l1 (a0 : TRouter) (a1 : List TRedist) (a2 : Int) (a3 : Int) (a4 : Int) (ha0 : L_TRouter a0) (ha1 : LL L_TRedist a1) (i0 : Nat) : loopM (M.ref8_redistributions_l1 a0 a1 a2 a3 a4) (i0 : Int) = some (runN (S.ref8_redistributions_l1 a0 a1 a2 a3 a4) (.inl ()) i0 (a1.length - i0)) := by
  have hM := maxLen_eq
  have hni1 : a1.length ≤ maxLen := ha1.1
  refine loop_runN (n := a1.length) (fun i1 hi1 => ?_) (fun m hm => ?_) i0
  · unfold M.ref8_redistributions_l1 S.ref8_redistributions_l1
    try simp only [Int.toNat_natCast]
    refine s_then (dt (by omega)) ?_
    refine s_gd (all_c (dt (by omega)) (all_c (dt (by omega)) all_n)) ?_
    refine s_bindN (s_ref8_within ((a1.getD i1 default).fFrom) 1 5) (fun r3 her3 => ?_)
    refine s_bindN (s_gc fun hg => (s_ref8_within ((a1.getD i1 default).fMetric) a3 a4)) (fun r4 her4 => ?_)
    refine s_bindN (s_gc fun hg => (s_ref8_within ((a1.getD i1 default).fTag) 0 65535)) (fun r5 her5 => ?_)
    refine s_ifN (fun hb2 => ?_) (fun hb2 => ?_)
    · exact s_out
    · refine s_ifN (fun hb3 => ?_) (fun hb3 => ?_)
      · exact s_out
      · refine s_bindN (s_gc fun hg => (s_ref8_RouteMap a0 ((a1.getD i1 default).fMap) ha0 (L_TRedist.fMap (LL.getD ha1 L_TRedist.dflt i1)))) (fun r6 her6 => ?_)
        refine s_ifN (fun hb4 => ?_) (fun hb4 => ?_)
        · exact s_out
        · refine s_bindN (s_ref8_redistributions_l2 a1 i1 ha1 hi1 0) (fun y9 hey9 => ?_)
          refine s_elimN (fun _ hl => ?_) (fun y11 hly11 => ?_)
          · exact s_up (by omega)
          · exact s_out
  · unfold M.ref8_redistributions_l1
    try simp only [Int.toNat_natCast]
    exact s_else (decide_eq_false (by omega)) rfl
noncomputable def S.ref8_redistributions (a0 : TRouter) (a1 : List TRedist) (a2 : Int) (a3 : Int) (a4 : Int) : Int :=
  bif decide ((a1.length : Int) > 4) then 7 else (letS (runN (S.ref8_redistributions_l1 a0 a1 a2 a3 a4) (.inl ()) 0 a1.length) (fun y12 => Sum.elim (fun _ => 0) (fun y14 => y14) y12))
theorem s_ref8_redistributions (a0 : TRouter) (a1 : List TRedist) (a2 : Int) (a3 : Int) (a4 : Int) (ha0 : L_TRouter a0) (ha1 : LL L_TRedist a1) : M.ref8_redistributions a0 a1 a2 a3 a4 = some (S.ref8_redistributions a0 a1 a2 a3 a4) := by
  have hM := maxLen_eq
  unfold M.ref8_redistributions S.ref8_redistributions
  refine s_if (fun hb1 => ?_) (fun hb1 => ?_)
  · rfl
  · refine s_bind (s_ref8_redistributions_l1 a0 a1 a2 a3 a4 ha0 ha1 0) (fun y12 hey12 => ?_)
    refine s_elim (fun _ hl => ?_) (fun y14 hly14 => ?_)
    · rfl
    · rfl
noncomputable def S.ref8_linkState_l2 (a0 : TRouter) (i2 : Nat) (i6 : Nat) : Option (Unit ⊕ Int) :=
  letS (bif (((a0.fLS.fRanges.getD i6 default).fArea) == ((a0.fLS.fRanges.getD i2 default).fArea)) then S.ref4_Overlaps ((a0.fLS.fRanges.getD i6 default).fPrefix) ((a0.fLS.fRanges.getD i2 default).fPrefix) else default) (fun r8 => bif (((a0.fLS.fRanges.getD i6 default).fArea) == ((a0.fLS.fRanges.getD i2 default).fArea)) && r8 then (some (.inr 6)) else none)
theorem s_ref8_linkState_l2 (a0 : TRouter) (i2 : Nat) (ha0 : L_TRouter a0) (hi2 : i2 < a0.fLS.fRanges.length) (i0 : Nat) : loopM (M.ref8_linkState_l2 a0 (i2 : Int)) (i0 : Int) = some (runN (S.ref8_linkState_l2 a0 i2) (.inl ()) i0 (i2 - i0)) := by
  have hM := maxLen_eq
  have hni2 : a0.fLS.fRanges.length ≤ maxLen := (L_TLinkState.fRanges (L_TRouter.fLS ha0))
  have hni6 : i2 ≤ maxLen := (by omega)
  refine loop_runN (n := i2) (fun i6 hi6 => ?_) (fun m hm => ?_) i0
  · unfold M.ref8_linkState_l2 S.ref8_linkState_l2
    try simp only [Int.toNat_natCast]
    refine s_then (dt (by omega)) ?_
    refine s_bindN (s_gc fun hg => (s_ref4_Overlaps ((a0.fLS.fRanges.getD i6 default).fPrefix) ((a0.fLS.fRanges.getD i2 default).fPrefix))) (fun r8 her8 => ?_)
    refine s_gd (all_c (dt (by omega)) (all_c (dt (by omega)) (all_c (dt (by omega)) (all_c (dt (by omega)) (all_c (s_guard fun hg => (dt (by first | omega | (simp; omega) | (simp at *; omega)))) (all_c (s_guard fun hg => (dt (by first | omega | (simp; omega) | (simp at *; omega)))) (all_c (s_guard fun hg => (dt (by first | omega | (simp; omega) | (simp at *; omega)))) (all_c (s_guard fun hg => (dt (by first | omega | (simp; omega) | (simp at *; omega)))) all_n)))))))) ?_
    refine s_ifN (fun hb6 => ?_) (fun hb6 => ?_)
    · exact s_out
    · exact s_up (by omega)
  · unfold M.ref8_linkState_l2
    try simp only [Int.toNat_natCast]
    exact s_else (decide_eq_false (by omega)) rfl
noncomputable def S.ref8_linkState_l1 (a0 : TRouter) (i2 : Nat) : Option (Unit ⊕ Int) :=
  letS (S.ref8_within ((a0.fLS.fRanges.getD i2 default).fArea) 0 255) (fun r4 => letS (bif (!(!r4)) then S.ref4_Valid ((a0.fLS.fRanges.getD i2 default).fPrefix) else default) (fun r5 => bif (!r4) || (!r5) then (some (.inr 1)) else (letS (runN (S.ref8_linkState_l2 a0 i2) (.inl ()) 0 i2) (fun y9 => Sum.elim (fun _ => none) (fun y11 => some (.inr y11)) y9))))
theorem s_ref8_linkState_l1 (a0 : TRouter) (ha0 : L_TRouter a0) (i0 : Nat) : loopM (M.ref8_linkState_l1 a0) (i0 : Int) = some (runN (S.ref8_linkState_l1 a0) (.inl ()) i0 (a0.fLS.fRanges.length - i0)) := by
  have hM := maxLen_eq
  have hni2 : a0.fLS.fRanges.length ≤ maxLen := (L_TLinkState.fRanges (L_TRouter.fLS ha0))
  refine loop_runN (n := a0.fLS.fRanges.length) (fun i2 hi2 => ?_) (fun m hm => ?_) i0
  · unfold M.ref8_linkState_l1 S.ref8_linkState_l1
    try simp only [Int.toNat_natCast]
    refine s_then (dt (by omega)) ?_
    refine s_bindN (s_ref8_within ((a0.fLS.fRanges.getD i2 default).fArea) 0 255) (fun r4 her4 => ?_)
    refine s_bindN (s_gc fun hg => (s_ref4_Valid ((a0.fLS.fRanges.getD i2 default).fPrefix))) (fun r5 her5 => ?_)
    refine s_gd (all_c (dt (by omega)) (all_c (dt (by omega)) (all_c (s_guard fun hg => (dt (by first | omega | (simp; omega) | (simp at *; omega)))) (all_c (s_guard fun hg => (dt (by first | omega | (simp; omega) | (simp at *; omega)))) all_n)))) ?_
    refine s_ifN (fun hb5 => ?_) (fun hb5 => ?_)
    · exact s_out
    · refine s_bindN (s_ref8_linkState_l2 a0 i2 ha0 hi2 0) (fun y9 hey9 => ?_)
      refine s_elimN (fun _ hl => ?_) (fun y11 hly11 => ?_)
      · exact s_up (by omega)
      · exact s_out
  · unfold M.ref8_linkState_l1
    try simp only [Int.toNat_natCast]
    exact s_else (decide_eq_false (by omega)) rfl
noncomputable def S.ref8_linkState (a0 : TRouter) : Int :=
  bif !a0.fLS.fOn then (bif ((a0.fLS.fAdmin != 0) || (decide ((a0.fLS.fRanges.length : Int) > 0))) || (decide ((a0.fLS.fRedist.length : Int) > 0)) then 1 else 0) else (letS (S.ref8_within a0.fLS.fAdmin 1 255) (fun r1 => bif !r1 then 1 else (bif decide ((a0.fLS.fRanges.length : Int) > 4) then 7 else (letS (runN (S.ref8_linkState_l1 a0) (.inl ()) 0 a0.fLS.fRanges.length) (fun y12 => Sum.elim (fun _ => letS (S.ref8_redistributions a0 a0.fLS.fRedist 3 0 16777215) (fun r15 => r15)) (fun y14 => y14) y12)))))
theorem s_ref8_linkState (a0 : TRouter) (ha0 : L_TRouter a0) : M.ref8_linkState a0 = some (S.ref8_linkState a0) := by
  have hM := maxLen_eq
  unfold M.ref8_linkState S.ref8_linkState
  refine s_if (fun hb1 => ?_) (fun hb1 => ?_)
  · refine s_if (fun hb2 => ?_) (fun hb2 => ?_)
    · rfl
    · rfl
  · refine s_bind (s_ref8_within a0.fLS.fAdmin 1 255) (fun r1 her1 => ?_)
    refine s_if (fun hb3 => ?_) (fun hb3 => ?_)
    · rfl
    · refine s_if (fun hb4 => ?_) (fun hb4 => ?_)
      · rfl
      · refine s_bind (s_ref8_linkState_l1 a0 ha0 0) (fun y12 hey12 => ?_)
        refine s_elim (fun _ hl => ?_) (fun y14 hly14 => ?_)
        · refine s_bind (s_ref8_redistributions a0 a0.fLS.fRedist 3 0 16777215 ha0 (L_TLinkState.fRedist (L_TRouter.fLS ha0))) (fun r15 her15 => ?_)
          rfl
        · rfl
noncomputable def S.ref8_distance (a0 : TRouter) : Int :=
  bif !a0.fDV.fOn then (bif (((a0.fDV.fAdmin != 0) || (!strEq a0.fDV.fIn (⟨#[]⟩ : ByteArray))) || (!strEq a0.fDV.fOut (⟨#[]⟩ : ByteArray))) || (decide ((a0.fDV.fRedist.length : Int) > 0)) then 1 else 0) else (letS (S.ref8_within a0.fDV.fAdmin 1 255) (fun r1 => bif !r1 then 1 else (letS (bif (!strEq a0.fDV.fIn (⟨#[]⟩ : ByteArray)) then S.ref8_PrefixList a0 a0.fDV.fIn else default) (fun r2 => letS (bif ((!((!strEq a0.fDV.fIn (⟨#[]⟩ : ByteArray)) && (decide (r2 < 0)))) && (!strEq a0.fDV.fOut (⟨#[]⟩ : ByteArray))) then S.ref8_PrefixList a0 a0.fDV.fOut else default) (fun r3 => bif ((!strEq a0.fDV.fIn (⟨#[]⟩ : ByteArray)) && (decide (r2 < 0))) || ((!strEq a0.fDV.fOut (⟨#[]⟩ : ByteArray)) && (decide (r3 < 0))) then 5 else (letS (S.ref8_redistributions a0 a0.fDV.fRedist 4 1 15) (fun r4 => r4)))))))
theorem s_ref8_distance (a0 : TRouter) (ha0 : L_TRouter a0) : M.ref8_distance a0 = some (S.ref8_distance a0) := by
  have hM := maxLen_eq
  unfold M.ref8_distance S.ref8_distance
  refine s_if (fun hb1 => ?_) (fun hb1 => ?_)
  · refine s_if (fun hb2 => ?_) (fun hb2 => ?_)
    · rfl
    · rfl
  · refine s_bind (s_ref8_within a0.fDV.fAdmin 1 255) (fun r1 her1 => ?_)
    refine s_if (fun hb3 => ?_) (fun hb3 => ?_)
    · rfl
    · refine s_bind (s_gc fun hg => (s_ref8_PrefixList a0 a0.fDV.fIn ha0 (L_TDistanceVector.fIn (L_TRouter.fDV ha0)))) (fun r2 her2 => ?_)
      refine s_bind (s_gc fun hg => (s_ref8_PrefixList a0 a0.fDV.fOut ha0 (L_TDistanceVector.fOut (L_TRouter.fDV ha0)))) (fun r3 her3 => ?_)
      refine s_if (fun hb4 => ?_) (fun hb4 => ?_)
      · rfl
      · refine s_bind (s_ref8_redistributions a0 a0.fDV.fRedist 4 1 15 ha0 (L_TDistanceVector.fRedist (L_TRouter.fDV ha0))) (fun r4 her4 => ?_)
        rfl
noncomputable def S.ref8_neighbors_l2 (a0 : TRouter) (i1 : Nat) (i6 : Nat) : Option (Unit ⊕ Int) :=
  bif ((a0.fPV.fNeighbors.getD i6 default).fAddr) == ((a0.fPV.fNeighbors.getD i1 default).fAddr) then (some (.inr 4)) else none
theorem s_ref8_neighbors_l2 (a0 : TRouter) (i1 : Nat) (ha0 : L_TRouter a0) (hi1 : i1 < a0.fPV.fNeighbors.length) (i0 : Nat) : loopM (M.ref8_neighbors_l2 a0 (i1 : Int)) (i0 : Int) = some (runN (S.ref8_neighbors_l2 a0 i1) (.inl ()) i0 (i1 - i0)) := by
  have hM := maxLen_eq
  have hni1 : a0.fPV.fNeighbors.length ≤ maxLen := (L_TPathVector.fNeighbors (L_TRouter.fPV ha0)).1
  have hni6 : i1 ≤ maxLen := (by omega)
  refine loop_runN (n := i1) (fun i6 hi6 => ?_) (fun m hm => ?_) i0
  · unfold M.ref8_neighbors_l2 S.ref8_neighbors_l2
    try simp only [Int.toNat_natCast]
    refine s_then (dt (by omega)) ?_
    refine s_gd (all_c (dt (by omega)) (all_c (dt (by omega)) (all_c (dt (by omega)) (all_c (dt (by omega)) all_n)))) ?_
    refine s_ifN (fun hb4 => ?_) (fun hb4 => ?_)
    · exact s_out
    · exact s_up (by omega)
  · unfold M.ref8_neighbors_l2
    try simp only [Int.toNat_natCast]
    exact s_else (decide_eq_false (by omega)) rfl
noncomputable def S.ref8_neighbors_l1 (a0 : TRouter) (i1 : Nat) : Option (Unit ⊕ Int) :=
  letS (bif (!(((a0.fPV.fNeighbors.getD i1 default).fAddr) == 0)) then S.ref8_within ((a0.fPV.fNeighbors.getD i1 default).fAS) 1 65535 else default) (fun r3 => bif (((a0.fPV.fNeighbors.getD i1 default).fAddr) == 0) || (!r3) then (some (.inr 1)) else (letS (bif (!strEq ((a0.fPV.fNeighbors.getD i1 default).fIn) (⟨#[]⟩ : ByteArray)) then S.ref8_RouteMap a0 ((a0.fPV.fNeighbors.getD i1 default).fIn) else default) (fun r4 => letS (bif ((!((!strEq ((a0.fPV.fNeighbors.getD i1 default).fIn) (⟨#[]⟩ : ByteArray)) && (decide (r4 < 0)))) && (!strEq ((a0.fPV.fNeighbors.getD i1 default).fOut) (⟨#[]⟩ : ByteArray))) then S.ref8_RouteMap a0 ((a0.fPV.fNeighbors.getD i1 default).fOut) else default) (fun r5 => bif ((!strEq ((a0.fPV.fNeighbors.getD i1 default).fIn) (⟨#[]⟩ : ByteArray)) && (decide (r4 < 0))) || ((!strEq ((a0.fPV.fNeighbors.getD i1 default).fOut) (⟨#[]⟩ : ByteArray)) && (decide (r5 < 0))) then (some (.inr 5)) else (letS (runN (S.ref8_neighbors_l2 a0 i1) (.inl ()) 0 i1) (fun y8 => Sum.elim (fun _ => none) (fun y10 => some (.inr y10)) y8))))))
theorem s_ref8_neighbors_l1 (a0 : TRouter) (ha0 : L_TRouter a0) (i0 : Nat) : loopM (M.ref8_neighbors_l1 a0) (i0 : Int) = some (runN (S.ref8_neighbors_l1 a0) (.inl ()) i0 (a0.fPV.fNeighbors.length - i0)) := by
  have hM := maxLen_eq
  have hni1 : a0.fPV.fNeighbors.length ≤ maxLen := (L_TPathVector.fNeighbors (L_TRouter.fPV ha0)).1
  refine loop_runN (n := a0.fPV.fNeighbors.length) (fun i1 hi1 => ?_) (fun m hm => ?_) i0
  · unfold M.ref8_neighbors_l1 S.ref8_neighbors_l1
    try simp only [Int.toNat_natCast]
    refine s_then (dt (by omega)) ?_
    refine s_bindN (s_gc fun hg => (s_ref8_within ((a0.fPV.fNeighbors.getD i1 default).fAS) 1 65535)) (fun r3 her3 => ?_)
    refine s_gd (all_c (dt (by omega)) (all_c (dt (by omega)) (all_c (s_guard fun hg => (dt (by first | omega | (simp; omega) | (simp at *; omega)))) (all_c (s_guard fun hg => (dt (by first | omega | (simp; omega) | (simp at *; omega)))) all_n)))) ?_
    refine s_ifN (fun hb2 => ?_) (fun hb2 => ?_)
    · exact s_out
    · refine s_bindN (s_gc fun hg => (s_ref8_RouteMap a0 ((a0.fPV.fNeighbors.getD i1 default).fIn) ha0 (L_TNeighbor.fIn (LL.getD (L_TPathVector.fNeighbors (L_TRouter.fPV ha0)) L_TNeighbor.dflt i1)))) (fun r4 her4 => ?_)
      refine s_bindN (s_gc fun hg => (s_ref8_RouteMap a0 ((a0.fPV.fNeighbors.getD i1 default).fOut) ha0 (L_TNeighbor.fOut (LL.getD (L_TPathVector.fNeighbors (L_TRouter.fPV ha0)) L_TNeighbor.dflt i1)))) (fun r5 her5 => ?_)
      refine s_gd (all_c (dt (by omega)) (all_c (dt (by omega)) (all_c (s_guard fun hg => (dt (by first | omega | (simp; omega) | (simp at *; omega)))) (all_c (s_guard fun hg => (dt (by first | omega | (simp; omega) | (simp at *; omega)))) (all_c (s_guard fun hg => (dt (by first | omega | (simp; omega) | (simp at *; omega)))) (all_c (s_guard fun hg => (dt (by first | omega | (simp; omega) | (simp at *; omega)))) (all_c (s_guard fun hg => (dt (by first | omega | (simp; omega) | (simp at *; omega)))) (all_c (s_guard fun hg => (dt (by first | omega | (simp; omega) | (simp at *; omega)))) all_n)))))))) ?_
      refine s_ifN (fun hb3 => ?_) (fun hb3 => ?_)
      · exact s_out
      · refine s_bindN (s_ref8_neighbors_l2 a0 i1 ha0 hi1 0) (fun y8 hey8 => ?_)
        refine s_elimN (fun _ hl => ?_) (fun y10 hly10 => ?_)
        · exact s_up (by omega)
        · exact s_out
  · unfold M.ref8_neighbors_l1
    try simp only [Int.toNat_natCast]
    exact s_else (decide_eq_false (by omega)) rfl
noncomputable def S.ref8_neighbors (a0 : TRouter) : Int :=
  bif decide ((a0.fPV.fNeighbors.length : Int) > 8) then 7 else (letS (runN (S.ref8_neighbors_l1 a0) (.inl ()) 0 a0.fPV.fNeighbors.length) (fun y11 => Sum.elim (fun _ => 0) (fun y13 => y13) y11))
theorem s_ref8_neighbors (a0 : TRouter) (ha0 : L_TRouter a0) : M.ref8_neighbors a0 = some (S.ref8_neighbors a0) := by
  have hM := maxLen_eq
  unfold M.ref8_neighbors S.ref8_neighbors
  refine s_if (fun hb1 => ?_) (fun hb1 => ?_)
  · rfl
  · refine s_bind (s_ref8_neighbors_l1 a0 ha0 0) (fun y11 hey11 => ?_)
    refine s_elim (fun _ hl => ?_) (fun y13 hly13 => ?_)
    · rfl
    · rfl
noncomputable def S.ref8_originations_l2 (a0 : TPathVector) (i1 : Nat) (i4 : Nat) : Option (Unit ⊕ Int) :=
  bif ((((a0.fNetworks.getD i4 default).fAddr) == ((a0.fNetworks.getD i1 default).fAddr)) && ((((a0.fNetworks.getD i4 default).fLen) == ((a0.fNetworks.getD i1 default).fLen)) && true)) then (some (.inr 4)) else none
theorem s_ref8_originations_l2 (a0 : TPathVector) (i1 : Nat) (ha0 : L_TPathVector a0) (hi1 : i1 < a0.fNetworks.length) (i0 : Nat) : loopM (M.ref8_originations_l2 a0 (i1 : Int)) (i0 : Int) = some (runN (S.ref8_originations_l2 a0 i1) (.inl ()) i0 (i1 - i0)) := by
  have hM := maxLen_eq
  have hni1 : a0.fNetworks.length ≤ maxLen := (L_TPathVector.fNetworks ha0)
  have hni4 : i1 ≤ maxLen := (by omega)
  refine loop_runN (n := i1) (fun i4 hi4 => ?_) (fun m hm => ?_) i0
  · unfold M.ref8_originations_l2 S.ref8_originations_l2
    try simp only [Int.toNat_natCast]
    refine s_then (dt (by omega)) ?_
    refine s_gd (all_c (dt (by omega)) (all_c (dt (by omega)) (all_c (dt (by omega)) (all_c (dt (by omega)) all_n)))) ?_
    refine s_ifN (fun hb3 => ?_) (fun hb3 => ?_)
    · exact s_out
    · exact s_up (by omega)
  · unfold M.ref8_originations_l2
    try simp only [Int.toNat_natCast]
    exact s_else (decide_eq_false (by omega)) rfl
noncomputable def S.ref8_originations_l1 (a0 : TPathVector) (i1 : Nat) : Option (Unit ⊕ Int) :=
  letS (S.ref4_Valid (a0.fNetworks.getD i1 default)) (fun r3 => bif !r3 then (some (.inr 1)) else (letS (runN (S.ref8_originations_l2 a0 i1) (.inl ()) 0 i1) (fun y6 => Sum.elim (fun _ => none) (fun y8 => some (.inr y8)) y6)))
theorem s_ref8_originations_l1 (a0 : TPathVector) (ha0 : L_TPathVector a0) (i0 : Nat) : loopM (M.ref8_originations_l1 a0) (i0 : Int) = some (runN (S.ref8_originations_l1 a0) (.inl ()) i0 (a0.fNetworks.length - i0)) := by
  have hM := maxLen_eq
  have hni1 : a0.fNetworks.length ≤ maxLen := (L_TPathVector.fNetworks ha0)
  refine loop_runN (n := a0.fNetworks.length) (fun i1 hi1 => ?_) (fun m hm => ?_) i0
  · unfold M.ref8_originations_l1 S.ref8_originations_l1
    try simp only [Int.toNat_natCast]
    refine s_then (dt (by omega)) ?_
    refine s_bindN (s_ref4_Valid (a0.fNetworks.getD i1 default)) (fun r3 her3 => ?_)
    refine s_gd (all_c (dt (by omega)) (all_c (dt (by omega)) all_n)) ?_
    refine s_ifN (fun hb2 => ?_) (fun hb2 => ?_)
    · exact s_out
    · refine s_bindN (s_ref8_originations_l2 a0 i1 ha0 hi1 0) (fun y6 hey6 => ?_)
      refine s_elimN (fun _ hl => ?_) (fun y8 hly8 => ?_)
      · exact s_up (by omega)
      · exact s_out
  · unfold M.ref8_originations_l1
    try simp only [Int.toNat_natCast]
    exact s_else (decide_eq_false (by omega)) rfl
noncomputable def S.ref8_originations_l4 (a0 : TPathVector) (i12 : Nat) (i15 : Nat) : Option (Unit ⊕ Int) :=
  bif (((((a0.fAggregates.getD i15 default).fPrefix).fAddr) == (((a0.fAggregates.getD i12 default).fPrefix).fAddr)) && (((((a0.fAggregates.getD i15 default).fPrefix).fLen) == (((a0.fAggregates.getD i12 default).fPrefix).fLen)) && true)) then (some (.inr 4)) else none
theorem s_ref8_originations_l4 (a0 : TPathVector) (i12 : Nat) (ha0 : L_TPathVector a0) (hi12 : i12 < a0.fAggregates.length) (i0 : Nat) : loopM (M.ref8_originations_l4 a0 (i12 : Int)) (i0 : Int) = some (runN (S.ref8_originations_l4 a0 i12) (.inl ()) i0 (i12 - i0)) := by
  have hM := maxLen_eq
  have hni12 : a0.fAggregates.length ≤ maxLen := (L_TPathVector.fAggregates ha0)
  have hni15 : i12 ≤ maxLen := (by omega)
  refine loop_runN (n := i12) (fun i15 hi15 => ?_) (fun m hm => ?_) i0
  · unfold M.ref8_originations_l4 S.ref8_originations_l4
    try simp only [Int.toNat_natCast]
    refine s_then (dt (by omega)) ?_
    refine s_gd (all_c (dt (by omega)) (all_c (dt (by omega)) (all_c (dt (by omega)) (all_c (dt (by omega)) all_n)))) ?_
    refine s_ifN (fun hb6 => ?_) (fun hb6 => ?_)
    · exact s_out
    · exact s_up (by omega)
  · unfold M.ref8_originations_l4
    try simp only [Int.toNat_natCast]
    exact s_else (decide_eq_false (by omega)) rfl
noncomputable def S.ref8_originations_l3 (a0 : TPathVector) (i12 : Nat) : Option (Unit ⊕ Int) :=
  letS (S.ref4_Valid ((a0.fAggregates.getD i12 default).fPrefix)) (fun r14 => bif !r14 then (some (.inr 1)) else (letS (runN (S.ref8_originations_l4 a0 i12) (.inl ()) 0 i12) (fun y17 => Sum.elim (fun _ => none) (fun y19 => some (.inr y19)) y17)))
theorem s_ref8_originations_l3 (a0 : TPathVector) (ha0 : L_TPathVector a0) (i0 : Nat) : loopM (M.ref8_originations_l3 a0) (i0 : Int) = some (runN (S.ref8_originations_l3 a0) (.inl ()) i0 (a0.fAggregates.length - i0)) := by
  have hM := maxLen_eq
  have hni12 : a0.fAggregates.length ≤ maxLen := (L_TPathVector.fAggregates ha0)
  refine loop_runN (n := a0.fAggregates.length) (fun i12 hi12 => ?_) (fun m hm => ?_) i0
  · unfold M.ref8_originations_l3 S.ref8_originations_l3
    try simp only [Int.toNat_natCast]
    refine s_then (dt (by omega)) ?_
    refine s_bindN (s_ref4_Valid ((a0.fAggregates.getD i12 default).fPrefix)) (fun r14 her14 => ?_)
    refine s_gd (all_c (dt (by omega)) (all_c (dt (by omega)) all_n)) ?_
    refine s_ifN (fun hb5 => ?_) (fun hb5 => ?_)
    · exact s_out
    · refine s_bindN (s_ref8_originations_l4 a0 i12 ha0 hi12 0) (fun y17 hey17 => ?_)
      refine s_elimN (fun _ hl => ?_) (fun y19 hly19 => ?_)
      · exact s_up (by omega)
      · exact s_out
  · unfold M.ref8_originations_l3
    try simp only [Int.toNat_natCast]
    exact s_else (decide_eq_false (by omega)) rfl
noncomputable def S.ref8_originations_l6 (a0 : TPathVector) (i23 : Nat) (i27 : Nat) : Option (Unit ⊕ Int) :=
  bif (((((a0.fConditions.getD i27 default).fPrefix).fAddr) == (((a0.fConditions.getD i23 default).fPrefix).fAddr)) && (((((a0.fConditions.getD i27 default).fPrefix).fLen) == (((a0.fConditions.getD i23 default).fPrefix).fLen)) && true)) then (some (.inr 4)) else none
theorem s_ref8_originations_l6 (a0 : TPathVector) (i23 : Nat) (ha0 : L_TPathVector a0) (hi23 : i23 < a0.fConditions.length) (i0 : Nat) : loopM (M.ref8_originations_l6 a0 (i23 : Int)) (i0 : Int) = some (runN (S.ref8_originations_l6 a0 i23) (.inl ()) i0 (i23 - i0)) := by
  have hM := maxLen_eq
  have hni23 : a0.fConditions.length ≤ maxLen := (L_TPathVector.fConditions ha0)
  have hni27 : i23 ≤ maxLen := (by omega)
  refine loop_runN (n := i23) (fun i27 hi27 => ?_) (fun m hm => ?_) i0
  · unfold M.ref8_originations_l6 S.ref8_originations_l6
    try simp only [Int.toNat_natCast]
    refine s_then (dt (by omega)) ?_
    refine s_gd (all_c (dt (by omega)) (all_c (dt (by omega)) all_n)) ?_
    refine s_ifN (fun hb10 => ?_) (fun hb10 => ?_)
    · exact s_out
    · exact s_up (by omega)
  · unfold M.ref8_originations_l6
    try simp only [Int.toNat_natCast]
    exact s_else (decide_eq_false (by omega)) rfl
noncomputable def S.ref8_originations_l5 (a0 : TPathVector) (i23 : Nat) : Option (Unit ⊕ Int) :=
  letS (S.ref4_Valid ((a0.fConditions.getD i23 default).fPrefix)) (fun r25 => letS (bif (!(!r25)) then S.ref4_Valid ((a0.fConditions.getD i23 default).fIf) else default) (fun r26 => bif (!r25) || (!r26) then (some (.inr 1)) else (bif (((((a0.fConditions.getD i23 default).fPrefix).fAddr) == (((a0.fConditions.getD i23 default).fIf).fAddr)) && (((((a0.fConditions.getD i23 default).fPrefix).fLen) == (((a0.fConditions.getD i23 default).fIf).fLen)) && true)) then (some (.inr 6)) else (letS (runN (S.ref8_originations_l6 a0 i23) (.inl ()) 0 i23) (fun y29 => Sum.elim (fun _ => none) (fun y31 => some (.inr y31)) y29)))))
theorem s_ref8_originations_l5 (a0 : TPathVector) (ha0 : L_TPathVector a0) (i0 : Nat) : loopM (M.ref8_originations_l5 a0) (i0 : Int) = some (runN (S.ref8_originations_l5 a0) (.inl ()) i0 (a0.fConditions.length - i0)) := by
  have hM := maxLen_eq
  have hni23 : a0.fConditions.length ≤ maxLen := (L_TPathVector.fConditions ha0)
  refine loop_runN (n := a0.fConditions.length) (fun i23 hi23 => ?_) (fun m hm => ?_) i0
  · unfold M.ref8_originations_l5 S.ref8_originations_l5
    try simp only [Int.toNat_natCast]
    refine s_then (dt (by omega)) ?_
    refine s_gd (all_c (dt (by omega)) (all_c (dt (by omega)) all_n)) ?_
    refine s_bindN (s_ref4_Valid ((a0.fConditions.getD i23 default).fPrefix)) (fun r25 her25 => ?_)
    refine s_bindN (s_gc fun hg => (s_ref4_Valid ((a0.fConditions.getD i23 default).fIf))) (fun r26 her26 => ?_)
    refine s_ifN (fun hb8 => ?_) (fun hb8 => ?_)
    · exact s_out
    · refine s_ifN (fun hb9 => ?_) (fun hb9 => ?_)
      · exact s_out
      · refine s_bindN (s_ref8_originations_l6 a0 i23 ha0 hi23 0) (fun y29 hey29 => ?_)
        refine s_elimN (fun _ hl => ?_) (fun y31 hly31 => ?_)
        · exact s_up (by omega)
        · exact s_out
  · unfold M.ref8_originations_l5
    try simp only [Int.toNat_natCast]
    exact s_else (decide_eq_false (by omega)) rfl
noncomputable def S.ref8_originations (a0 : TPathVector) : Int :=
  bif decide ((a0.fNetworks.length : Int) > 8) then 7 else (letS (runN (S.ref8_originations_l1 a0) (.inl ()) 0 a0.fNetworks.length) (fun y9 => Sum.elim (fun _ => bif decide ((a0.fAggregates.length : Int) > 8) then 7 else (letS (runN (S.ref8_originations_l3 a0) (.inl ()) 0 a0.fAggregates.length) (fun y20 => Sum.elim (fun _ => bif decide ((a0.fConditions.length : Int) > 8) then 7 else (letS (runN (S.ref8_originations_l5 a0) (.inl ()) 0 a0.fConditions.length) (fun y32 => Sum.elim (fun _ => 0) (fun y34 => y34) y32))) (fun y22 => y22) y20))) (fun y11 => y11) y9))
theorem s_ref8_originations (a0 : TPathVector) (ha0 : L_TPathVector a0) : M.ref8_originations a0 = some (S.ref8_originations a0) := by
  have hM := maxLen_eq
  unfold M.ref8_originations S.ref8_originations
  refine s_if (fun hb1 => ?_) (fun hb1 => ?_)
  · rfl
  · refine s_bind (s_ref8_originations_l1 a0 ha0 0) (fun y9 hey9 => ?_)
    refine s_elim (fun _ hl => ?_) (fun y11 hly11 => ?_)
    · refine s_if (fun hb4 => ?_) (fun hb4 => ?_)
      · rfl
      · refine s_bind (s_ref8_originations_l3 a0 ha0 0) (fun y20 hey20 => ?_)
        refine s_elim (fun _ hl => ?_) (fun y22 hly22 => ?_)
        · refine s_if (fun hb7 => ?_) (fun hb7 => ?_)
          · rfl
          · refine s_bind (s_ref8_originations_l5 a0 ha0 0) (fun y32 hey32 => ?_)
            refine s_elim (fun _ hl => ?_) (fun y34 hly34 => ?_)
            · rfl
            · rfl
        · rfl
    · rfl
noncomputable def S.ref8_pathVector (a0 : TRouter) : Int :=
  bif !a0.fPV.fOn then (bif ((a0.fPV.fExternal != 0) || (a0.fPV.fInternal != 0)) || (decide ((wr .i64 ((wr .i64 ((wr .i64 ((wr .i64 ((a0.fPV.fNeighbors.length : Int) + (a0.fPV.fNetworks.length : Int))) + (a0.fPV.fAggregates.length : Int))) + (a0.fPV.fConditions.length : Int))) + (a0.fPV.fRedist.length : Int))) > 0)) then 1 else 0) else (letS (bif (!(a0.fAS == 0)) then S.ref8_within a0.fPV.fExternal 1 255 else default) (fun r1 => letS (bif (!((a0.fAS == 0) || (!r1))) then S.ref8_within a0.fPV.fInternal 1 255 else default) (fun r2 => bif ((a0.fAS == 0) || (!r1)) || (!r2) then 1 else (letS (S.ref8_neighbors a0) (fun r3 => bif r3 != 0 then r3 else (letS (S.ref8_originations a0.fPV) (fun r4 => bif r4 != 0 then r4 else (letS (S.ref8_redistributions a0 a0.fPV.fRedist 5 0 16777215) (fun r5 => r5)))))))))
theorem s_ref8_pathVector (a0 : TRouter) (ha0 : L_TRouter a0) : M.ref8_pathVector a0 = some (S.ref8_pathVector a0) := by
  have hM := maxLen_eq
  unfold M.ref8_pathVector S.ref8_pathVector
  refine s_if (fun hb1 => ?_) (fun hb1 => ?_)
  · refine s_if (fun hb2 => ?_) (fun hb2 => ?_)
    · rfl
    · rfl
  · refine s_bind (s_gc fun hg => (s_ref8_within a0.fPV.fExternal 1 255)) (fun r1 her1 => ?_)
    refine s_bind (s_gc fun hg => (s_ref8_within a0.fPV.fInternal 1 255)) (fun r2 her2 => ?_)
    refine s_if (fun hb3 => ?_) (fun hb3 => ?_)
    · rfl
    · refine s_bind (s_ref8_neighbors a0 ha0) (fun r3 her3 => ?_)
      refine s_if (fun hb4 => ?_) (fun hb4 => ?_)
      · rfl
      · refine s_bind (s_ref8_originations a0.fPV (L_TRouter.fPV ha0)) (fun r4 her4 => ?_)
        refine s_if (fun hb5 => ?_) (fun hb5 => ?_)
        · rfl
        · refine s_bind (s_ref8_redistributions a0 a0.fPV.fRedist 5 0 16777215 ha0 (L_TPathVector.fRedist (L_TRouter.fPV ha0))) (fun r5 her5 => ?_)
          rfl
noncomputable def S.ref8_CheckRouter_l1 (r3 : Int) (r4 : Int) (r5 : Int) (r6 : Int) (r7 : Int) (r8 : Int) (r9 : Int) (r10 : Int) (r11 : Int) (r12 : Int) (i13 : Nat) : Option (Unit ⊕ Int) :=
  bif (([r3, r4, r5, r6, r7, r8, r9, r10, r11, r12] : List Int).getD i13 default) != 0 then (some (.inr (([r3, r4, r5, r6, r7, r8, r9, r10, r11, r12] : List Int).getD i13 default))) else none
theorem s_ref8_CheckRouter_l1 (r3 : Int) (r4 : Int) (r5 : Int) (r6 : Int) (r7 : Int) (r8 : Int) (r9 : Int) (r10 : Int) (r11 : Int) (r12 : Int)  (i0 : Nat) : loopM (M.ref8_CheckRouter_l1 r3 r4 r5 r6 r7 r8 r9 r10 r11 r12) (i0 : Int) = some (runN (S.ref8_CheckRouter_l1 r3 r4 r5 r6 r7 r8 r9 r10 r11 r12) (.inl ()) i0 (([r3, r4, r5, r6, r7, r8, r9, r10, r11, r12] : List Int).length - i0)) := by
  have hM := maxLen_eq
  have hni13 : ([r3, r4, r5, r6, r7, r8, r9, r10, r11, r12] : List Int).length ≤ maxLen := (by simp [maxLen_eq])
  refine loop_runN (n := ([r3, r4, r5, r6, r7, r8, r9, r10, r11, r12] : List Int).length) (fun i13 hi13 => ?_) (fun m hm => ?_) i0
  · unfold M.ref8_CheckRouter_l1 S.ref8_CheckRouter_l1
    try simp only [Int.toNat_natCast]
    refine s_then (dt (by omega)) ?_
    refine s_gd (all_c (dt (by omega)) (all_c (dt (by first | omega | (simp; omega) | (simp at *; omega))) all_n)) ?_
    refine s_ifN (fun hb3 => ?_) (fun hb3 => ?_)
    · refine s_gd (all_c (dt (by omega)) (all_c (dt (by first | omega | (simp; omega) | (simp at *; omega))) all_n)) ?_
      exact s_out
    · exact s_up (by omega)
  · unfold M.ref8_CheckRouter_l1
    try simp only [Int.toNat_natCast]
    exact s_else (decide_eq_false (by omega)) rfl
noncomputable def S.ref8_CheckRouter (a0 : TRouter) : Int :=
  letS (S.ref4_Name a0.fName) (fun r1 => bif !r1 then 3 else (letS (S.ref8_within a0.fAS 0 65535) (fun r2 => bif !r2 then 1 else (letS (S.ref8_interfaces a0.fInterfaces) (fun r3 => letS (S.ref8_prefixLists a0.fLists) (fun r4 => letS (S.ref8_routeMaps a0) (fun r5 => letS (S.ref8_accessLists a0.fACLs) (fun r6 => letS (S.ref8_translations a0) (fun r7 => letS (S.ref8_filters a0) (fun r8 => letS (S.ref8_statics a0) (fun r9 => letS (S.ref8_linkState a0) (fun r10 => letS (S.ref8_distance a0) (fun r11 => letS (S.ref8_pathVector a0) (fun r12 => letS (runN (S.ref8_CheckRouter_l1 r3 r4 r5 r6 r7 r8 r9 r10 r11 r12) (.inl ()) 0 (([r3, r4, r5, r6, r7, r8, r9, r10, r11, r12] : List Int).length)) (fun y15 => Sum.elim (fun _ => 0) (fun y17 => y17) y15)))))))))))))))
theorem s_ref8_CheckRouter (a0 : TRouter) (ha0 : L_TRouter a0) : M.ref8_CheckRouter a0 = some (S.ref8_CheckRouter a0) := by
  have hM := maxLen_eq
  unfold M.ref8_CheckRouter S.ref8_CheckRouter
  refine s_bind (s_ref4_Name a0.fName (L_TRouter.fName ha0)) (fun r1 her1 => ?_)
  refine s_if (fun hb1 => ?_) (fun hb1 => ?_)
  · rfl
  · refine s_bind (s_ref8_within a0.fAS 0 65535) (fun r2 her2 => ?_)
    refine s_if (fun hb2 => ?_) (fun hb2 => ?_)
    · rfl
    · refine s_bind (s_ref8_interfaces a0.fInterfaces (L_TRouter.fInterfaces ha0)) (fun r3 her3 => ?_)
      refine s_bind (s_ref8_prefixLists a0.fLists (L_TRouter.fLists ha0)) (fun r4 her4 => ?_)
      refine s_bind (s_ref8_routeMaps a0 ha0) (fun r5 her5 => ?_)
      refine s_bind (s_ref8_accessLists a0.fACLs (L_TRouter.fACLs ha0)) (fun r6 her6 => ?_)
      refine s_bind (s_ref8_translations a0 ha0) (fun r7 her7 => ?_)
      refine s_bind (s_ref8_filters a0 ha0) (fun r8 her8 => ?_)
      refine s_bind (s_ref8_statics a0 ha0) (fun r9 her9 => ?_)
      refine s_bind (s_ref8_linkState a0 ha0) (fun r10 her10 => ?_)
      refine s_bind (s_ref8_distance a0 ha0) (fun r11 her11 => ?_)
      refine s_bind (s_ref8_pathVector a0 ha0) (fun r12 her12 => ?_)
      refine s_bind (s_ref8_CheckRouter_l1 r3 r4 r5 r6 r7 r8 r9 r10 r11 r12 0) (fun y15 hey15 => ?_)
      refine s_elim (fun _ hl => ?_) (fun y17 hly17 => ?_)
      · rfl
      · rfl
noncomputable def S.scan_letter (a0 : Int) : Bool :=
  ((decide (65 ≤ a0)) && (decide (a0 ≤ 90))) || ((decide (97 ≤ a0)) && (decide (a0 ≤ 122)))
theorem s_scan_letter (a0 : Int)  : M.scan_letter a0 = some (S.scan_letter a0) := by
  have hM := maxLen_eq
  unfold M.scan_letter S.scan_letter
  rfl
noncomputable def S.scan_digit (a0 : Int) : Bool :=
  (decide (48 ≤ a0)) && (decide (a0 ≤ 57))
theorem s_scan_digit (a0 : Int)  : M.scan_digit a0 = some (S.scan_digit a0) := by
  have hM := maxLen_eq
  unfold M.scan_digit S.scan_digit
  rfl
noncomputable def S.scan_Name_l1 (a0 : ByteArray) (i2 : Nat) : Option (Unit ⊕ Bool) :=
  letS (S.scan_letter (byteAt a0 (i2 : Int))) (fun r4 => letS (bif (!r4) then S.scan_digit (byteAt a0 (i2 : Int)) else default) (fun r5 => bif (((((!r4) && (!r5)) && ((byteAt a0 (i2 : Int)) != 45)) && ((byteAt a0 (i2 : Int)) != 95)) && ((byteAt a0 (i2 : Int)) != 47)) && ((byteAt a0 (i2 : Int)) != 46) then (some (.inr false)) else none))
theorem s_scan_Name_l1 (a0 : ByteArray) (ha0 : a0.size ≤ maxLen) (i0 : Nat) : loopM (M.scan_Name_l1 a0) (i0 : Int) = some (runN (S.scan_Name_l1 a0) (.inl ()) i0 (a0.size - i0)) := by
  have hM := maxLen_eq
  have hni2 : a0.size ≤ maxLen := ha0
  refine loop_runN (n := a0.size) (fun i2 hi2 => ?_) (fun m hm => ?_) i0
  · unfold M.scan_Name_l1 S.scan_Name_l1
    try simp only [Int.toNat_natCast]
    refine s_then (dt (by omega)) ?_
    refine s_gd (all_c (dt (by omega)) (all_c (dt (by omega)) all_n)) ?_
    refine s_bindN (s_scan_letter (byteAt a0 (i2 : Int))) (fun r4 her4 => ?_)
    refine s_bindN (s_gc fun hg => (s_scan_digit (byteAt a0 (i2 : Int)))) (fun r5 her5 => ?_)
    refine s_ifN (fun hb2 => ?_) (fun hb2 => ?_)
    · exact s_out
    · exact s_up (by omega)
  · unfold M.scan_Name_l1
    try simp only [Int.toNat_natCast]
    exact s_else (decide_eq_false (by omega)) rfl
noncomputable def S.scan_Name (a0 : ByteArray) : Bool :=
  letS (bif (!((decide ((a0.size : Int) < 1)) || (decide ((a0.size : Int) > 15)))) then S.scan_letter (byteAt a0 0) else default) (fun r1 => bif ((decide ((a0.size : Int) < 1)) || (decide ((a0.size : Int) > 15))) || (!r1) then false else (letS (runN (S.scan_Name_l1 a0) (.inl ()) 1 (a0.size - 1)) (fun y6 => Sum.elim (fun _ => true) (fun y8 => y8) y6)))
theorem s_scan_Name (a0 : ByteArray) (ha0 : a0.size ≤ maxLen) : M.scan_Name a0 = some (S.scan_Name a0) := by
  have hM := maxLen_eq
  unfold M.scan_Name S.scan_Name
  refine s_bind (s_gc fun hg => (s_scan_letter (byteAt a0 0))) (fun r1 her1 => ?_)
  refine s_gd (all_c (s_guard fun hg => (dt (by first | omega | (simp; omega) | (simp at *; omega)))) (all_c (s_guard fun hg => (dt (by first | omega | (simp; omega) | (simp at *; omega)))) all_n)) ?_
  refine s_if (fun hb1 => ?_) (fun hb1 => ?_)
  · rfl
  · refine s_bind (s_scan_Name_l1 a0 ha0 1) (fun y6 hey6 => ?_)
    refine s_elim (fun _ hl => ?_) (fun y8 hly8 => ?_)
    · rfl
    · rfl
noncomputable def S.model_within (a0 : Int) (a1 : Int) (a2 : Int) : Bool :=
  (decide (a1 ≤ a0)) && (decide (a0 ≤ a2))
theorem s_model_within (a0 : Int) (a1 : Int) (a2 : Int)  : M.model_within a0 a1 a2 = some (S.model_within a0 a1 a2) := by
  have hM := maxLen_eq
  unfold M.model_within S.model_within
  rfl
noncomputable def S.model_Interface_1 (a0 : TInterface) (b0 : ByteArray) : Bool :=
  strEq a0.fName b0
theorem s_model_Interface_1 (a0 : TInterface) (b0 : ByteArray) (ha0 : L_TInterface a0) (hb0 : b0.size ≤ maxLen) : M.model_Interface_1 a0 b0 = some (S.model_Interface_1 a0 b0) := by
  have hM := maxLen_eq
  unfold M.model_Interface_1 S.model_Interface_1
  rfl
noncomputable def S.slices_IndexFunc_api_Interface_api_Interface__model_Interface_1_l1 (a0 : List TInterface) (a1c0 : ByteArray) (i1 : Nat) : Option (Unit ⊕ Int) :=
  letS (S.model_Interface_1 (a0.getD i1 default) a1c0) (fun r3 => bif r3 then (some (.inr (i1 : Int))) else none)
theorem s_slices_IndexFunc_api_Interface_api_Interface__model_Interface_1_l1 (a0 : List TInterface) (a1c0 : ByteArray) (ha0 : LL L_TInterface a0) (ha1c0 : a1c0.size ≤ maxLen) (i0 : Nat) : loopM (M.slices_IndexFunc_api_Interface_api_Interface__model_Interface_1_l1 a0 a1c0) (i0 : Int) = some (runN (S.slices_IndexFunc_api_Interface_api_Interface__model_Interface_1_l1 a0 a1c0) (.inl ()) i0 (a0.length - i0)) := by
  have hM := maxLen_eq
  have hni1 : a0.length ≤ maxLen := ha0.1
  refine loop_runN (n := a0.length) (fun i1 hi1 => ?_) (fun m hm => ?_) i0
  · unfold M.slices_IndexFunc_api_Interface_api_Interface__model_Interface_1_l1 S.slices_IndexFunc_api_Interface_api_Interface__model_Interface_1_l1
    try simp only [Int.toNat_natCast]
    refine s_then (dt (by omega)) ?_
    refine s_bindN (s_model_Interface_1 (a0.getD i1 default) a1c0 (LL.getD ha0 L_TInterface.dflt i1) ha1c0) (fun r3 her3 => ?_)
    refine s_gd (all_c (dt (by omega)) (all_c (dt (by omega)) all_n)) ?_
    refine s_ifN (fun hb1 => ?_) (fun hb1 => ?_)
    · exact s_out
    · exact s_up (by omega)
  · unfold M.slices_IndexFunc_api_Interface_api_Interface__model_Interface_1_l1
    try simp only [Int.toNat_natCast]
    exact s_else (decide_eq_false (by omega)) rfl
noncomputable def S.slices_IndexFunc_api_Interface_api_Interface__model_Interface_1 (a0 : List TInterface) (a1c0 : ByteArray) : Int :=
  letS (runN (S.slices_IndexFunc_api_Interface_api_Interface__model_Interface_1_l1 a0 a1c0) (.inl ()) 0 a0.length) (fun y4 => Sum.elim (fun _ => -1) (fun y6 => y6) y4)
theorem s_slices_IndexFunc_api_Interface_api_Interface__model_Interface_1 (a0 : List TInterface) (a1c0 : ByteArray) (ha0 : LL L_TInterface a0) (ha1c0 : a1c0.size ≤ maxLen) : M.slices_IndexFunc_api_Interface_api_Interface__model_Interface_1 a0 a1c0 = some (S.slices_IndexFunc_api_Interface_api_Interface__model_Interface_1 a0 a1c0) := by
  have hM := maxLen_eq
  unfold M.slices_IndexFunc_api_Interface_api_Interface__model_Interface_1 S.slices_IndexFunc_api_Interface_api_Interface__model_Interface_1
  refine s_bind (s_slices_IndexFunc_api_Interface_api_Interface__model_Interface_1_l1 a0 a1c0 ha0 ha1c0 0) (fun y4 hey4 => ?_)
  refine s_elim (fun _ hl => ?_) (fun y6 hly6 => ?_)
  · rfl
  · rfl
noncomputable def S.model_Interface (a0 : TRouter) (a1 : ByteArray) : Int :=
  letS (S.slices_IndexFunc_api_Interface_api_Interface__model_Interface_1 a0.fInterfaces a1) (fun r1 => r1)
theorem s_model_Interface (a0 : TRouter) (a1 : ByteArray) (ha0 : L_TRouter a0) (ha1 : a1.size ≤ maxLen) : M.model_Interface a0 a1 = some (S.model_Interface a0 a1) := by
  have hM := maxLen_eq
  unfold M.model_Interface S.model_Interface
  refine s_bind (s_slices_IndexFunc_api_Interface_api_Interface__model_Interface_1 a0.fInterfaces a1 (L_TRouter.fInterfaces ha0) ha1) (fun r1 her1 => ?_)
  rfl
theorem rng_model_Interface (a0 : TRouter) (a1 : ByteArray) : S.model_Interface a0 a1 < (a0.fInterfaces.length : Int) := by
  unfold S.model_Interface S.slices_IndexFunc_api_Interface_api_Interface__model_Interface_1
  simp only [letS]
  exact idx_lt (fun i => by unfold S.slices_IndexFunc_api_Interface_api_Interface__model_Interface_1_l1; simp only [letS]; cases S.model_Interface_1 (a0.fInterfaces.getD i default) a1 <;> simp) _
noncomputable def S.model_rightInterface (a0 : TInterface) : Bool :=
  letS (S.model_within a0.fLen 0 32) (fun r1 => letS (bif (!(!r1)) then S.model_within a0.fVLAN 0 4094 else default) (fun r2 => letS (bif (!((!r1) || (!r2))) then S.model_within a0.fSide 0 2 else default) (fun r3 => bif ((!r1) || (!r2)) || (!r3) then false else (bif (a0.fLen == 0) && (((((((a0.fAddr != 0) || (a0.fVLAN != 0)) || (a0.fSide != 0)) || a0.fLS) || a0.fDV) || (!strEq a0.fIn (⟨#[]⟩ : ByteArray))) || (!strEq a0.fOut (⟨#[]⟩ : ByteArray))) then false else (bif (a0.fLen != 0) && (a0.fAddr == 0) then false else (bif a0.fLS then (letS (S.model_within a0.fArea 0 255) (fun r4 => letS (bif r4 then S.model_within a0.fCost 1 65535 else default) (fun r5 => r4 && r5))) else ((a0.fArea == 0) && (a0.fCost == 0))))))))
theorem s_model_rightInterface (a0 : TInterface) (ha0 : L_TInterface a0) : M.model_rightInterface a0 = some (S.model_rightInterface a0) := by
  have hM := maxLen_eq
  unfold M.model_rightInterface S.model_rightInterface
  refine s_bind (s_model_within a0.fLen 0 32) (fun r1 her1 => ?_)
  refine s_bind (s_gc fun hg => (s_model_within a0.fVLAN 0 4094)) (fun r2 her2 => ?_)
  refine s_bind (s_gc fun hg => (s_model_within a0.fSide 0 2)) (fun r3 her3 => ?_)
  refine s_if (fun hb1 => ?_) (fun hb1 => ?_)
  · rfl
  · refine s_if (fun hb2 => ?_) (fun hb2 => ?_)
    · rfl
    · refine s_if (fun hb3 => ?_) (fun hb3 => ?_)
      · rfl
      · refine s_if (fun hb4 => ?_) (fun hb4 => ?_)
        · refine s_bind (s_model_within a0.fArea 0 255) (fun r4 her4 => ?_)
          refine s_bind (s_gc fun hg => (s_model_within a0.fCost 1 65535)) (fun r5 her5 => ?_)
          rfl
        · rfl
noncomputable def S.addr_Network (a0 : Int) (a1 : Int) : TPrefix :=
  letS (S.addr_Mask a1) (fun r1 => letS (S.addr_clamp a1) (fun r2 => (⟨bitD .and .u32 a0 r1, r2⟩ : TPrefix)))
theorem s_addr_Network (a0 : Int) (a1 : Int)  : M.addr_Network a0 a1 = some (S.addr_Network a0 a1) := by
  have hM := maxLen_eq
  unfold M.addr_Network S.addr_Network
  refine s_bind (s_addr_Mask a1) (fun r1 her1 => ?_)
  refine s_bind (s_addr_clamp a1) (fun r2 her2 => ?_)
  rfl
noncomputable def S.addr_Contains (a0 : TPrefix) (a1 : Int) : Bool :=
  letS (S.addr_Mask a0.fLen) (fun r1 => (bitD .and .u32 a1 r1) == a0.fAddr)
theorem s_addr_Contains (a0 : TPrefix) (a1 : Int)  : M.addr_Contains a0 a1 = some (S.addr_Contains a0 a1) := by
  have hM := maxLen_eq
  unfold M.addr_Contains S.addr_Contains
  refine s_bind (s_addr_Mask a0.fLen) (fun r1 her1 => ?_)
  rfl
noncomputable def S.addr_Covers (a0 : TPrefix) (a1 : TPrefix) : Bool :=
  letS (bif (decide (a0.fLen ≤ a1.fLen)) then S.addr_Contains a0 a1.fAddr else default) (fun r1 => (decide (a0.fLen ≤ a1.fLen)) && r1)
theorem s_addr_Covers (a0 : TPrefix) (a1 : TPrefix)  : M.addr_Covers a0 a1 = some (S.addr_Covers a0 a1) := by
  have hM := maxLen_eq
  unfold M.addr_Covers S.addr_Covers
  refine s_bind (s_gc fun hg => (s_addr_Contains a0 a1.fAddr)) (fun r1 her1 => ?_)
  rfl
noncomputable def S.addr_Overlaps (a0 : TPrefix) (a1 : TPrefix) : Bool :=
  letS (S.addr_Covers a0 a1) (fun r1 => letS (bif (!r1) then S.addr_Covers a1 a0 else default) (fun r2 => r1 || r2))
theorem s_addr_Overlaps (a0 : TPrefix) (a1 : TPrefix)  : M.addr_Overlaps a0 a1 = some (S.addr_Overlaps a0 a1) := by
  have hM := maxLen_eq
  unfold M.addr_Overlaps S.addr_Overlaps
  refine s_bind (s_addr_Covers a0 a1) (fun r1 her1 => ?_)
  refine s_bind (s_gc fun hg => (s_addr_Covers a1 a0)) (fun r2 her2 => ?_)
  rfl
noncomputable def S.model_checkInterfaces_l2 (a0 : TRouter) (i1 : Nat) (i6 : Nat) : Option (Unit ⊕ Int) :=
  letS (bif ((((a0.fInterfaces.getD i1 default).fLen) != 0) && (((((a0.fInterfaces.drop 0).take (i1 - 0)).getD i6 default).fLen) != 0)) then S.addr_Network ((a0.fInterfaces.getD i1 default).fAddr) ((a0.fInterfaces.getD i1 default).fLen) else default) (fun r8 => letS (bif ((((a0.fInterfaces.getD i1 default).fLen) != 0) && (((((a0.fInterfaces.drop 0).take (i1 - 0)).getD i6 default).fLen) != 0)) then S.addr_Network ((((a0.fInterfaces.drop 0).take (i1 - 0)).getD i6 default).fAddr) ((((a0.fInterfaces.drop 0).take (i1 - 0)).getD i6 default).fLen) else default) (fun r9 => letS (bif ((((a0.fInterfaces.getD i1 default).fLen) != 0) && (((((a0.fInterfaces.drop 0).take (i1 - 0)).getD i6 default).fLen) != 0)) then S.addr_Overlaps r8 r9 else default) (fun r10 => bif ((((a0.fInterfaces.getD i1 default).fLen) != 0) && (((((a0.fInterfaces.drop 0).take (i1 - 0)).getD i6 default).fLen) != 0)) && r10 then (some (.inr 6)) else none)))
theorem s_model_checkInterfaces_l2 (a0 : TRouter) (i1 : Nat) (ha0 : L_TRouter a0) (hi1 : i1 < a0.fInterfaces.length) (i0 : Nat) : loopM (M.model_checkInterfaces_l2 a0 (i1 : Int)) (i0 : Int) = some (runN (S.model_checkInterfaces_l2 a0 i1) (.inl ()) i0 (i1 - i0)) := by
  have hM := maxLen_eq
  have hni1 : a0.fInterfaces.length ≤ maxLen := (L_TRouter.fInterfaces ha0).1
  have hni6 : i1 ≤ maxLen := (by omega)
  refine loop_runN (n := i1) (fun i6 hi6 => ?_) (fun m hm => ?_) i0
  · unfold M.model_checkInterfaces_l2 S.model_checkInterfaces_l2
    try simp only [Int.toNat_natCast]
    refine s_then (dt (by omega)) ?_
    refine s_gd (all_c (dt (by omega)) (all_c (dt (by simp; omega)) all_n)) ?_
    refine s_bindN (s_gc fun hg => (s_addr_Network ((a0.fInterfaces.getD i1 default).fAddr) ((a0.fInterfaces.getD i1 default).fLen))) (fun r8 her8 => ?_)
    refine s_bindN (s_gc fun hg => (s_addr_Network ((((a0.fInterfaces.drop 0).take (i1 - 0)).getD i6 default).fAddr) ((((a0.fInterfaces.drop 0).take (i1 - 0)).getD i6 default).fLen))) (fun r9 her9 => ?_)
    refine s_bindN (s_gc fun hg => (s_addr_Overlaps r8 r9)) (fun r10 her10 => ?_)
    refine s_ifN (fun hb5 => ?_) (fun hb5 => ?_)
    · exact s_out
    · exact s_up (by omega)
  · unfold M.model_checkInterfaces_l2
    try simp only [Int.toNat_natCast]
    exact s_else (decide_eq_false (by omega)) rfl
noncomputable def S.model_checkInterfaces_l1 (a0 : TRouter) (i1 : Nat) : Option (Unit ⊕ Int) :=
  letS (S.scan_Name ((a0.fInterfaces.getD i1 default).fName)) (fun r3 => bif !r3 then (some (.inr 3)) else (letS (S.model_Interface a0 ((a0.fInterfaces.getD i1 default).fName)) (fun r4 => bif decide (r4 < (i1 : Int)) then (some (.inr 4)) else (letS (S.model_rightInterface (a0.fInterfaces.getD i1 default)) (fun r5 => bif !r5 then (some (.inr 1)) else (letS (runN (S.model_checkInterfaces_l2 a0 i1) (.inl ()) 0 i1) (fun y11 => Sum.elim (fun _ => none) (fun y13 => some (.inr y13)) y11)))))))
theorem s_model_checkInterfaces_l1 (a0 : TRouter) (ha0 : L_TRouter a0) (i0 : Nat) : loopM (M.model_checkInterfaces_l1 a0) (i0 : Int) = some (runN (S.model_checkInterfaces_l1 a0) (.inl ()) i0 (a0.fInterfaces.length - i0)) := by
  have hM := maxLen_eq
  have hni1 : a0.fInterfaces.length ≤ maxLen := (L_TRouter.fInterfaces ha0).1
  refine loop_runN (n := a0.fInterfaces.length) (fun i1 hi1 => ?_) (fun m hm => ?_) i0
  · unfold M.model_checkInterfaces_l1 S.model_checkInterfaces_l1
    try simp only [Int.toNat_natCast]
    refine s_then (dt (by omega)) ?_
    refine s_gd (all_c (dt (by omega)) (all_c (dt (by omega)) all_n)) ?_
    refine s_bindN (s_scan_Name ((a0.fInterfaces.getD i1 default).fName) (L_TInterface.fName (LL.getD (L_TRouter.fInterfaces ha0) L_TInterface.dflt i1))) (fun r3 her3 => ?_)
    refine s_ifN (fun hb2 => ?_) (fun hb2 => ?_)
    · exact s_out
    · refine s_bindN (s_model_Interface a0 ((a0.fInterfaces.getD i1 default).fName) ha0 (L_TInterface.fName (LL.getD (L_TRouter.fInterfaces ha0) L_TInterface.dflt i1))) (fun r4 her4 => ?_)
      have hrr4 := rng_model_Interface a0 ((a0.fInterfaces.getD i1 default).fName)
      refine s_ifN (fun hb3 => ?_) (fun hb3 => ?_)
      · exact s_out
      · refine s_bindN (s_model_rightInterface (a0.fInterfaces.getD i1 default) (LL.getD (L_TRouter.fInterfaces ha0) L_TInterface.dflt i1)) (fun r5 her5 => ?_)
        refine s_ifN (fun hb4 => ?_) (fun hb4 => ?_)
        · exact s_out
        · refine s_gd (all_c (dt (by omega)) (all_c (dt (by omega)) all_n)) ?_
          refine s_bindN (s_model_checkInterfaces_l2 a0 i1 ha0 hi1 0) (fun y11 hey11 => ?_)
          refine s_elimN (fun _ hl => ?_) (fun y13 hly13 => ?_)
          · exact s_up (by omega)
          · exact s_out
  · unfold M.model_checkInterfaces_l1
    try simp only [Int.toNat_natCast]
    exact s_else (decide_eq_false (by omega)) rfl
noncomputable def S.model_checkInterfaces (a0 : TRouter) : Int :=
  bif decide ((a0.fInterfaces.length : Int) > 8) then 7 else (letS (runN (S.model_checkInterfaces_l1 a0) (.inl ()) 0 a0.fInterfaces.length) (fun y14 => Sum.elim (fun _ => 0) (fun y16 => y16) y14))
theorem s_model_checkInterfaces (a0 : TRouter) (ha0 : L_TRouter a0) : M.model_checkInterfaces a0 = some (S.model_checkInterfaces a0) := by
  have hM := maxLen_eq
  unfold M.model_checkInterfaces S.model_checkInterfaces
  refine s_if (fun hb1 => ?_) (fun hb1 => ?_)
  · rfl
  · refine s_bind (s_model_checkInterfaces_l1 a0 ha0 0) (fun y14 hey14 => ?_)
    refine s_elim (fun _ hl => ?_) (fun y16 hly16 => ?_)
    · rfl
    · rfl
noncomputable def S.model_PrefixList_1 (a0 : TPrefixList) (b0 : ByteArray) : Bool :=
  strEq a0.fName b0
theorem s_model_PrefixList_1 (a0 : TPrefixList) (b0 : ByteArray) (ha0 : L_TPrefixList a0) (hb0 : b0.size ≤ maxLen) : M.model_PrefixList_1 a0 b0 = some (S.model_PrefixList_1 a0 b0) := by
  have hM := maxLen_eq
  unfold M.model_PrefixList_1 S.model_PrefixList_1
  rfl
noncomputable def S.slices_IndexFunc_api_PrefixList_api_PrefixList__model_PrefixList_1_l1 (a0 : List TPrefixList) (a1c0 : ByteArray) (i1 : Nat) : Option (Unit ⊕ Int) :=
  letS (S.model_PrefixList_1 (a0.getD i1 default) a1c0) (fun r3 => bif r3 then (some (.inr (i1 : Int))) else none)
theorem s_slices_IndexFunc_api_PrefixList_api_PrefixList__model_PrefixList_1_l1 (a0 : List TPrefixList) (a1c0 : ByteArray) (ha0 : LL L_TPrefixList a0) (ha1c0 : a1c0.size ≤ maxLen) (i0 : Nat) : loopM (M.slices_IndexFunc_api_PrefixList_api_PrefixList__model_PrefixList_1_l1 a0 a1c0) (i0 : Int) = some (runN (S.slices_IndexFunc_api_PrefixList_api_PrefixList__model_PrefixList_1_l1 a0 a1c0) (.inl ()) i0 (a0.length - i0)) := by
  have hM := maxLen_eq
  have hni1 : a0.length ≤ maxLen := ha0.1
  refine loop_runN (n := a0.length) (fun i1 hi1 => ?_) (fun m hm => ?_) i0
  · unfold M.slices_IndexFunc_api_PrefixList_api_PrefixList__model_PrefixList_1_l1 S.slices_IndexFunc_api_PrefixList_api_PrefixList__model_PrefixList_1_l1
    try simp only [Int.toNat_natCast]
    refine s_then (dt (by omega)) ?_
    refine s_bindN (s_model_PrefixList_1 (a0.getD i1 default) a1c0 (LL.getD ha0 L_TPrefixList.dflt i1) ha1c0) (fun r3 her3 => ?_)
    refine s_gd (all_c (dt (by omega)) (all_c (dt (by omega)) all_n)) ?_
    refine s_ifN (fun hb1 => ?_) (fun hb1 => ?_)
    · exact s_out
    · exact s_up (by omega)
  · unfold M.slices_IndexFunc_api_PrefixList_api_PrefixList__model_PrefixList_1_l1
    try simp only [Int.toNat_natCast]
    exact s_else (decide_eq_false (by omega)) rfl
noncomputable def S.slices_IndexFunc_api_PrefixList_api_PrefixList__model_PrefixList_1 (a0 : List TPrefixList) (a1c0 : ByteArray) : Int :=
  letS (runN (S.slices_IndexFunc_api_PrefixList_api_PrefixList__model_PrefixList_1_l1 a0 a1c0) (.inl ()) 0 a0.length) (fun y4 => Sum.elim (fun _ => -1) (fun y6 => y6) y4)
theorem s_slices_IndexFunc_api_PrefixList_api_PrefixList__model_PrefixList_1 (a0 : List TPrefixList) (a1c0 : ByteArray) (ha0 : LL L_TPrefixList a0) (ha1c0 : a1c0.size ≤ maxLen) : M.slices_IndexFunc_api_PrefixList_api_PrefixList__model_PrefixList_1 a0 a1c0 = some (S.slices_IndexFunc_api_PrefixList_api_PrefixList__model_PrefixList_1 a0 a1c0) := by
  have hM := maxLen_eq
  unfold M.slices_IndexFunc_api_PrefixList_api_PrefixList__model_PrefixList_1 S.slices_IndexFunc_api_PrefixList_api_PrefixList__model_PrefixList_1
  refine s_bind (s_slices_IndexFunc_api_PrefixList_api_PrefixList__model_PrefixList_1_l1 a0 a1c0 ha0 ha1c0 0) (fun y4 hey4 => ?_)
  refine s_elim (fun _ hl => ?_) (fun y6 hly6 => ?_)
  · rfl
  · rfl
noncomputable def S.model_PrefixList (a0 : TRouter) (a1 : ByteArray) : Int :=
  letS (S.slices_IndexFunc_api_PrefixList_api_PrefixList__model_PrefixList_1 a0.fLists a1) (fun r1 => r1)
theorem s_model_PrefixList (a0 : TRouter) (a1 : ByteArray) (ha0 : L_TRouter a0) (ha1 : a1.size ≤ maxLen) : M.model_PrefixList a0 a1 = some (S.model_PrefixList a0 a1) := by
  have hM := maxLen_eq
  unfold M.model_PrefixList S.model_PrefixList
  refine s_bind (s_slices_IndexFunc_api_PrefixList_api_PrefixList__model_PrefixList_1 a0.fLists a1 (L_TRouter.fLists ha0) ha1) (fun r1 her1 => ?_)
  rfl
noncomputable def S.model_checkList (a0 : Int) (a1 : Int) (a2 : ByteArray) (a3 : Int) (a4 : Int) : Int :=
  letS (S.scan_Name a2) (fun r1 => bif !r1 then 3 else (bif decide (a1 < a0) then 4 else (bif a3 == 0 then 1 else (bif decide (a3 > a4) then 7 else 0))))
theorem s_model_checkList (a0 : Int) (a1 : Int) (a2 : ByteArray) (a3 : Int) (a4 : Int) (ha2 : a2.size ≤ maxLen) : M.model_checkList a0 a1 a2 a3 a4 = some (S.model_checkList a0 a1 a2 a3 a4) := by
  have hM := maxLen_eq
  unfold M.model_checkList S.model_checkList
  refine s_bind (s_scan_Name a2 ha2) (fun r1 her1 => ?_)
  refine s_if (fun hb1 => ?_) (fun hb1 => ?_)
  · rfl
  · refine s_if (fun hb2 => ?_) (fun hb2 => ?_)
    · rfl
    · refine s_if (fun hb3 => ?_) (fun hb3 => ?_)
      · rfl
      · refine s_if (fun hb4 => ?_) (fun hb4 => ?_)
        · rfl
        · rfl
noncomputable def S.addr_Valid (a0 : TPrefix) : Bool :=
  letS (bif ((decide (a0.fLen ≥ 0)) && (decide (a0.fLen ≤ 32))) then S.addr_Mask a0.fLen else default) (fun r1 => ((decide (a0.fLen ≥ 0)) && (decide (a0.fLen ≤ 32))) && ((bitD .andNot .u32 a0.fAddr r1) == 0))
theorem s_addr_Valid (a0 : TPrefix)  : M.addr_Valid a0 = some (S.addr_Valid a0) := by
  have hM := maxLen_eq
  unfold M.addr_Valid S.addr_Valid
  refine s_bind (s_gc fun hg => (s_addr_Mask a0.fLen)) (fun r1 her1 => ?_)
  rfl
noncomputable def S.model_checkPrefixLists_l2 (a0 : TRouter) (i1 : Nat) (i5 : Nat) : Option (Unit ⊕ Int) :=
  letS (S.addr_Valid ((((a0.fLists.getD i1 default).fRules).getD i5 default).fPrefix)) (fun r7 => bif (((!r7) || (decide (((((a0.fLists.getD i1 default).fRules).getD i5 default).fMin) < (((((a0.fLists.getD i1 default).fRules).getD i5 default).fPrefix).fLen)))) || (decide (((((a0.fLists.getD i1 default).fRules).getD i5 default).fMax) < ((((a0.fLists.getD i1 default).fRules).getD i5 default).fMin)))) || (decide (((((a0.fLists.getD i1 default).fRules).getD i5 default).fMax) > 32)) then (some (.inr 1)) else none)
theorem s_model_checkPrefixLists_l2 (a0 : TRouter) (i1 : Nat) (ha0 : L_TRouter a0) (hi1 : i1 < a0.fLists.length) (i0 : Nat) : loopM (M.model_checkPrefixLists_l2 a0 (i1 : Int)) (i0 : Int) = some (runN (S.model_checkPrefixLists_l2 a0 i1) (.inl ()) i0 (((a0.fLists.getD i1 default).fRules).length - i0)) := by
  have hM := maxLen_eq
  have hni1 : a0.fLists.length ≤ maxLen := (L_TRouter.fLists ha0).1
  have hni5 : ((a0.fLists.getD i1 default).fRules).length ≤ maxLen := (L_TPrefixList.fRules (LL.getD (L_TRouter.fLists ha0) L_TPrefixList.dflt i1))
  refine loop_runN (n := ((a0.fLists.getD i1 default).fRules).length) (fun i5 hi5 => ?_) (fun m hm => ?_) i0
  · unfold M.model_checkPrefixLists_l2 S.model_checkPrefixLists_l2
    try simp only [Int.toNat_natCast]
    refine s_then (dt (by omega)) ?_
    refine s_gd (all_c (dt (by omega)) (all_c (dt (by omega)) all_n)) ?_
    refine s_bindN (s_addr_Valid ((((a0.fLists.getD i1 default).fRules).getD i5 default).fPrefix)) (fun r7 her7 => ?_)
    refine s_ifN (fun hb3 => ?_) (fun hb3 => ?_)
    · exact s_out
    · exact s_up (by omega)
  · unfold M.model_checkPrefixLists_l2
    try simp only [Int.toNat_natCast]
    exact s_else (decide_eq_false (by omega)) rfl
noncomputable def S.model_checkPrefixLists_l1 (a0 : TRouter) (i1 : Nat) : Option (Unit ⊕ Int) :=
  letS (S.model_PrefixList a0 ((a0.fLists.getD i1 default).fName)) (fun r3 => letS (S.model_checkList (i1 : Int) r3 ((a0.fLists.getD i1 default).fName) (((a0.fLists.getD i1 default).fRules).length : Int) 16) (fun r4 => bif r4 != 0 then (some (.inr r4)) else (letS (runN (S.model_checkPrefixLists_l2 a0 i1) (.inl ()) 0 (((a0.fLists.getD i1 default).fRules).length)) (fun y8 => Sum.elim (fun _ => none) (fun y10 => some (.inr y10)) y8))))
theorem s_model_checkPrefixLists_l1 (a0 : TRouter) (ha0 : L_TRouter a0) (i0 : Nat) : loopM (M.model_checkPrefixLists_l1 a0) (i0 : Int) = some (runN (S.model_checkPrefixLists_l1 a0) (.inl ()) i0 (a0.fLists.length - i0)) := by
  have hM := maxLen_eq
  have hni1 : a0.fLists.length ≤ maxLen := (L_TRouter.fLists ha0).1
  refine loop_runN (n := a0.fLists.length) (fun i1 hi1 => ?_) (fun m hm => ?_) i0
  · unfold M.model_checkPrefixLists_l1 S.model_checkPrefixLists_l1
    try simp only [Int.toNat_natCast]
    refine s_then (dt (by omega)) ?_
    refine s_gd (all_c (dt (by omega)) (all_c (dt (by omega)) all_n)) ?_
    refine s_bindN (s_model_PrefixList a0 ((a0.fLists.getD i1 default).fName) ha0 (L_TPrefixList.fName (LL.getD (L_TRouter.fLists ha0) L_TPrefixList.dflt i1))) (fun r3 her3 => ?_)
    refine s_bindN (s_model_checkList (i1 : Int) r3 ((a0.fLists.getD i1 default).fName) (((a0.fLists.getD i1 default).fRules).length : Int) 16 (L_TPrefixList.fName (LL.getD (L_TRouter.fLists ha0) L_TPrefixList.dflt i1))) (fun r4 her4 => ?_)
    refine s_ifN (fun hb2 => ?_) (fun hb2 => ?_)
    · exact s_out
    · refine s_bindN (s_model_checkPrefixLists_l2 a0 i1 ha0 hi1 0) (fun y8 hey8 => ?_)
      refine s_elimN (fun _ hl => ?_) (fun y10 hly10 => ?_)
      · exact s_up (by omega)
      · exact s_out
  · unfold M.model_checkPrefixLists_l1
    try simp only [Int.toNat_natCast]
    exact s_else (decide_eq_false (by omega)) rfl
noncomputable def S.model_checkPrefixLists (a0 : TRouter) : Int :=
  bif decide ((a0.fLists.length : Int) > 8) then 7 else (letS (runN (S.model_checkPrefixLists_l1 a0) (.inl ()) 0 a0.fLists.length) (fun y11 => Sum.elim (fun _ => 0) (fun y13 => y13) y11))
theorem s_model_checkPrefixLists (a0 : TRouter) (ha0 : L_TRouter a0) : M.model_checkPrefixLists a0 = some (S.model_checkPrefixLists a0) := by
  have hM := maxLen_eq
  unfold M.model_checkPrefixLists S.model_checkPrefixLists
  refine s_if (fun hb1 => ?_) (fun hb1 => ?_)
  · rfl
  · refine s_bind (s_model_checkPrefixLists_l1 a0 ha0 0) (fun y11 hey11 => ?_)
    refine s_elim (fun _ hl => ?_) (fun y13 hly13 => ?_)
    · rfl
    · rfl
noncomputable def S.model_RouteMap_1 (a0 : TRouteMap) (b0 : ByteArray) : Bool :=
  strEq a0.fName b0
theorem s_model_RouteMap_1 (a0 : TRouteMap) (b0 : ByteArray) (ha0 : L_TRouteMap a0) (hb0 : b0.size ≤ maxLen) : M.model_RouteMap_1 a0 b0 = some (S.model_RouteMap_1 a0 b0) := by
  have hM := maxLen_eq
  unfold M.model_RouteMap_1 S.model_RouteMap_1
  rfl
noncomputable def S.slices_IndexFunc_api_RouteMap_api_RouteMap__model_RouteMap_1_l1 (a0 : List TRouteMap) (a1c0 : ByteArray) (i1 : Nat) : Option (Unit ⊕ Int) :=
  letS (S.model_RouteMap_1 (a0.getD i1 default) a1c0) (fun r3 => bif r3 then (some (.inr (i1 : Int))) else none)
theorem s_slices_IndexFunc_api_RouteMap_api_RouteMap__model_RouteMap_1_l1 (a0 : List TRouteMap) (a1c0 : ByteArray) (ha0 : LL L_TRouteMap a0) (ha1c0 : a1c0.size ≤ maxLen) (i0 : Nat) : loopM (M.slices_IndexFunc_api_RouteMap_api_RouteMap__model_RouteMap_1_l1 a0 a1c0) (i0 : Int) = some (runN (S.slices_IndexFunc_api_RouteMap_api_RouteMap__model_RouteMap_1_l1 a0 a1c0) (.inl ()) i0 (a0.length - i0)) := by
  have hM := maxLen_eq
  have hni1 : a0.length ≤ maxLen := ha0.1
  refine loop_runN (n := a0.length) (fun i1 hi1 => ?_) (fun m hm => ?_) i0
  · unfold M.slices_IndexFunc_api_RouteMap_api_RouteMap__model_RouteMap_1_l1 S.slices_IndexFunc_api_RouteMap_api_RouteMap__model_RouteMap_1_l1
    try simp only [Int.toNat_natCast]
    refine s_then (dt (by omega)) ?_
    refine s_bindN (s_model_RouteMap_1 (a0.getD i1 default) a1c0 (LL.getD ha0 L_TRouteMap.dflt i1) ha1c0) (fun r3 her3 => ?_)
    refine s_gd (all_c (dt (by omega)) (all_c (dt (by omega)) all_n)) ?_
    refine s_ifN (fun hb1 => ?_) (fun hb1 => ?_)
    · exact s_out
    · exact s_up (by omega)
  · unfold M.slices_IndexFunc_api_RouteMap_api_RouteMap__model_RouteMap_1_l1
    try simp only [Int.toNat_natCast]
    exact s_else (decide_eq_false (by omega)) rfl
noncomputable def S.slices_IndexFunc_api_RouteMap_api_RouteMap__model_RouteMap_1 (a0 : List TRouteMap) (a1c0 : ByteArray) : Int :=
  letS (runN (S.slices_IndexFunc_api_RouteMap_api_RouteMap__model_RouteMap_1_l1 a0 a1c0) (.inl ()) 0 a0.length) (fun y4 => Sum.elim (fun _ => -1) (fun y6 => y6) y4)
theorem s_slices_IndexFunc_api_RouteMap_api_RouteMap__model_RouteMap_1 (a0 : List TRouteMap) (a1c0 : ByteArray) (ha0 : LL L_TRouteMap a0) (ha1c0 : a1c0.size ≤ maxLen) : M.slices_IndexFunc_api_RouteMap_api_RouteMap__model_RouteMap_1 a0 a1c0 = some (S.slices_IndexFunc_api_RouteMap_api_RouteMap__model_RouteMap_1 a0 a1c0) := by
  have hM := maxLen_eq
  unfold M.slices_IndexFunc_api_RouteMap_api_RouteMap__model_RouteMap_1 S.slices_IndexFunc_api_RouteMap_api_RouteMap__model_RouteMap_1
  refine s_bind (s_slices_IndexFunc_api_RouteMap_api_RouteMap__model_RouteMap_1_l1 a0 a1c0 ha0 ha1c0 0) (fun y4 hey4 => ?_)
  refine s_elim (fun _ hl => ?_) (fun y6 hly6 => ?_)
  · rfl
  · rfl
noncomputable def S.model_RouteMap (a0 : TRouter) (a1 : ByteArray) : Int :=
  letS (S.slices_IndexFunc_api_RouteMap_api_RouteMap__model_RouteMap_1 a0.fMaps a1) (fun r1 => r1)
theorem s_model_RouteMap (a0 : TRouter) (a1 : ByteArray) (ha0 : L_TRouter a0) (ha1 : a1.size ≤ maxLen) : M.model_RouteMap a0 a1 = some (S.model_RouteMap a0 a1) := by
  have hM := maxLen_eq
  unfold M.model_RouteMap S.model_RouteMap
  refine s_bind (s_slices_IndexFunc_api_RouteMap_api_RouteMap__model_RouteMap_1 a0.fMaps a1 (L_TRouter.fMaps ha0) ha1) (fun r1 her1 => ?_)
  rfl
noncomputable def S.model_rightClause (a0 : TClause) : Bool :=
  letS (S.model_within a0.fTag (-1) 65535) (fun r1 => letS (bif r1 then S.model_within a0.fSetMetric (-1) 16777215 else default) (fun r2 => letS (bif (r1 && r2) then S.model_within a0.fSetTag (-1) 65535 else default) (fun r3 => letS (bif ((r1 && r2) && r3) then S.model_within a0.fSetPref (-1) 1000000 else default) (fun r4 => letS (bif (((r1 && r2) && r3) && r4) then S.model_within a0.fPrepend 0 8 else default) (fun r5 => (((r1 && r2) && r3) && r4) && r5)))))
theorem s_model_rightClause (a0 : TClause) (ha0 : L_TClause a0) : M.model_rightClause a0 = some (S.model_rightClause a0) := by
  have hM := maxLen_eq
  unfold M.model_rightClause S.model_rightClause
  refine s_bind (s_model_within a0.fTag (-1) 65535) (fun r1 her1 => ?_)
  refine s_bind (s_gc fun hg => (s_model_within a0.fSetMetric (-1) 16777215)) (fun r2 her2 => ?_)
  refine s_bind (s_gc fun hg => (s_model_within a0.fSetTag (-1) 65535)) (fun r3 her3 => ?_)
  refine s_bind (s_gc fun hg => (s_model_within a0.fSetPref (-1) 1000000)) (fun r4 her4 => ?_)
  refine s_bind (s_gc fun hg => (s_model_within a0.fPrepend 0 8)) (fun r5 her5 => ?_)
  rfl
noncomputable def S.model_checkRouteMaps_l2 (a0 : TRouter) (i1 : Nat) (i5 : Nat) : Option (Unit ⊕ Int) :=
  letS (bif (!strEq ((((a0.fMaps.getD i1 default).fClauses).getD i5 default).fList) (⟨#[]⟩ : ByteArray)) then S.model_PrefixList a0 ((((a0.fMaps.getD i1 default).fClauses).getD i5 default).fList) else default) (fun r7 => bif (!strEq ((((a0.fMaps.getD i1 default).fClauses).getD i5 default).fList) (⟨#[]⟩ : ByteArray)) && (decide (r7 < 0)) then (some (.inr 5)) else (letS (S.model_rightClause (((a0.fMaps.getD i1 default).fClauses).getD i5 default)) (fun r8 => bif !r8 then (some (.inr 1)) else none)))
theorem s_model_checkRouteMaps_l2 (a0 : TRouter) (i1 : Nat) (ha0 : L_TRouter a0) (hi1 : i1 < a0.fMaps.length) (i0 : Nat) : loopM (M.model_checkRouteMaps_l2 a0 (i1 : Int)) (i0 : Int) = some (runN (S.model_checkRouteMaps_l2 a0 i1) (.inl ()) i0 (((a0.fMaps.getD i1 default).fClauses).length - i0)) := by
  have hM := maxLen_eq
  have hni1 : a0.fMaps.length ≤ maxLen := (L_TRouter.fMaps ha0).1
  have hni5 : ((a0.fMaps.getD i1 default).fClauses).length ≤ maxLen := (L_TRouteMap.fClauses (LL.getD (L_TRouter.fMaps ha0) L_TRouteMap.dflt i1)).1
  refine loop_runN (n := ((a0.fMaps.getD i1 default).fClauses).length) (fun i5 hi5 => ?_) (fun m hm => ?_) i0
  · unfold M.model_checkRouteMaps_l2 S.model_checkRouteMaps_l2
    try simp only [Int.toNat_natCast]
    refine s_then (dt (by omega)) ?_
    refine s_gd (all_c (dt (by omega)) (all_c (dt (by omega)) all_n)) ?_
    refine s_bindN (s_gc fun hg => (s_model_PrefixList a0 ((((a0.fMaps.getD i1 default).fClauses).getD i5 default).fList) ha0 (L_TClause.fList (LL.getD (L_TRouteMap.fClauses (LL.getD (L_TRouter.fMaps ha0) L_TRouteMap.dflt i1)) L_TClause.dflt i5)))) (fun r7 her7 => ?_)
    refine s_ifN (fun hb3 => ?_) (fun hb3 => ?_)
    · exact s_out
    · refine s_bindN (s_model_rightClause (((a0.fMaps.getD i1 default).fClauses).getD i5 default) (LL.getD (L_TRouteMap.fClauses (LL.getD (L_TRouter.fMaps ha0) L_TRouteMap.dflt i1)) L_TClause.dflt i5)) (fun r8 her8 => ?_)
      refine s_ifN (fun hb4 => ?_) (fun hb4 => ?_)
      · exact s_out
      · exact s_up (by omega)
  · unfold M.model_checkRouteMaps_l2
    try simp only [Int.toNat_natCast]
    exact s_else (decide_eq_false (by omega)) rfl
noncomputable def S.model_checkRouteMaps_l1 (a0 : TRouter) (i1 : Nat) : Option (Unit ⊕ Int) :=
  letS (S.model_RouteMap a0 ((a0.fMaps.getD i1 default).fName)) (fun r3 => letS (S.model_checkList (i1 : Int) r3 ((a0.fMaps.getD i1 default).fName) (((a0.fMaps.getD i1 default).fClauses).length : Int) 8) (fun r4 => bif r4 != 0 then (some (.inr r4)) else (letS (runN (S.model_checkRouteMaps_l2 a0 i1) (.inl ()) 0 (((a0.fMaps.getD i1 default).fClauses).length)) (fun y9 => Sum.elim (fun _ => none) (fun y11 => some (.inr y11)) y9))))
theorem s_model_checkRouteMaps_l1 (a0 : TRouter) (ha0 : L_TRouter a0) (i0 : Nat) : loopM (M.model_checkRouteMaps_l1 a0) (i0 : Int) = some (runN (S.model_checkRouteMaps_l1 a0) (.inl ()) i0 (a0.fMaps.length - i0)) := by
  have hM := maxLen_eq
  have hni1 : a0.fMaps.length ≤ maxLen := (L_TRouter.fMaps ha0).1
  refine loop_runN (n := a0.fMaps.length) (fun i1 hi1 => ?_) (fun m hm => ?_) i0
  · unfold M.model_checkRouteMaps_l1 S.model_checkRouteMaps_l1
    try simp only [Int.toNat_natCast]
    refine s_then (dt (by omega)) ?_
    refine s_gd (all_c (dt (by omega)) (all_c (dt (by omega)) all_n)) ?_
    refine s_bindN (s_model_RouteMap a0 ((a0.fMaps.getD i1 default).fName) ha0 (L_TRouteMap.fName (LL.getD (L_TRouter.fMaps ha0) L_TRouteMap.dflt i1))) (fun r3 her3 => ?_)
    refine s_bindN (s_model_checkList (i1 : Int) r3 ((a0.fMaps.getD i1 default).fName) (((a0.fMaps.getD i1 default).fClauses).length : Int) 8 (L_TRouteMap.fName (LL.getD (L_TRouter.fMaps ha0) L_TRouteMap.dflt i1))) (fun r4 her4 => ?_)
    refine s_ifN (fun hb2 => ?_) (fun hb2 => ?_)
    · exact s_out
    · refine s_bindN (s_model_checkRouteMaps_l2 a0 i1 ha0 hi1 0) (fun y9 hey9 => ?_)
      refine s_elimN (fun _ hl => ?_) (fun y11 hly11 => ?_)
      · exact s_up (by omega)
      · exact s_out
  · unfold M.model_checkRouteMaps_l1
    try simp only [Int.toNat_natCast]
    exact s_else (decide_eq_false (by omega)) rfl
noncomputable def S.model_checkRouteMaps (a0 : TRouter) : Int :=
  bif decide ((a0.fMaps.length : Int) > 8) then 7 else (letS (runN (S.model_checkRouteMaps_l1 a0) (.inl ()) 0 a0.fMaps.length) (fun y12 => Sum.elim (fun _ => 0) (fun y14 => y14) y12))
theorem s_model_checkRouteMaps (a0 : TRouter) (ha0 : L_TRouter a0) : M.model_checkRouteMaps a0 = some (S.model_checkRouteMaps a0) := by
  have hM := maxLen_eq
  unfold M.model_checkRouteMaps S.model_checkRouteMaps
  refine s_if (fun hb1 => ?_) (fun hb1 => ?_)
  · rfl
  · refine s_bind (s_model_checkRouteMaps_l1 a0 ha0 0) (fun y12 hey12 => ?_)
    refine s_elim (fun _ hl => ?_) (fun y14 hly14 => ?_)
    · rfl
    · rfl
noncomputable def S.model_ACL_1 (a0 : TACL) (b0 : ByteArray) : Bool :=
  strEq a0.fName b0
theorem s_model_ACL_1 (a0 : TACL) (b0 : ByteArray) (ha0 : L_TACL a0) (hb0 : b0.size ≤ maxLen) : M.model_ACL_1 a0 b0 = some (S.model_ACL_1 a0 b0) := by
  have hM := maxLen_eq
  unfold M.model_ACL_1 S.model_ACL_1
  rfl
noncomputable def S.slices_IndexFunc_api_ACL_api_ACL__model_ACL_1_l1 (a0 : List TACL) (a1c0 : ByteArray) (i1 : Nat) : Option (Unit ⊕ Int) :=
  letS (S.model_ACL_1 (a0.getD i1 default) a1c0) (fun r3 => bif r3 then (some (.inr (i1 : Int))) else none)
theorem s_slices_IndexFunc_api_ACL_api_ACL__model_ACL_1_l1 (a0 : List TACL) (a1c0 : ByteArray) (ha0 : LL L_TACL a0) (ha1c0 : a1c0.size ≤ maxLen) (i0 : Nat) : loopM (M.slices_IndexFunc_api_ACL_api_ACL__model_ACL_1_l1 a0 a1c0) (i0 : Int) = some (runN (S.slices_IndexFunc_api_ACL_api_ACL__model_ACL_1_l1 a0 a1c0) (.inl ()) i0 (a0.length - i0)) := by
  have hM := maxLen_eq
  have hni1 : a0.length ≤ maxLen := ha0.1
  refine loop_runN (n := a0.length) (fun i1 hi1 => ?_) (fun m hm => ?_) i0
  · unfold M.slices_IndexFunc_api_ACL_api_ACL__model_ACL_1_l1 S.slices_IndexFunc_api_ACL_api_ACL__model_ACL_1_l1
    try simp only [Int.toNat_natCast]
    refine s_then (dt (by omega)) ?_
    refine s_bindN (s_model_ACL_1 (a0.getD i1 default) a1c0 (LL.getD ha0 L_TACL.dflt i1) ha1c0) (fun r3 her3 => ?_)
    refine s_gd (all_c (dt (by omega)) (all_c (dt (by omega)) all_n)) ?_
    refine s_ifN (fun hb1 => ?_) (fun hb1 => ?_)
    · exact s_out
    · exact s_up (by omega)
  · unfold M.slices_IndexFunc_api_ACL_api_ACL__model_ACL_1_l1
    try simp only [Int.toNat_natCast]
    exact s_else (decide_eq_false (by omega)) rfl
noncomputable def S.slices_IndexFunc_api_ACL_api_ACL__model_ACL_1 (a0 : List TACL) (a1c0 : ByteArray) : Int :=
  letS (runN (S.slices_IndexFunc_api_ACL_api_ACL__model_ACL_1_l1 a0 a1c0) (.inl ()) 0 a0.length) (fun y4 => Sum.elim (fun _ => -1) (fun y6 => y6) y4)
theorem s_slices_IndexFunc_api_ACL_api_ACL__model_ACL_1 (a0 : List TACL) (a1c0 : ByteArray) (ha0 : LL L_TACL a0) (ha1c0 : a1c0.size ≤ maxLen) : M.slices_IndexFunc_api_ACL_api_ACL__model_ACL_1 a0 a1c0 = some (S.slices_IndexFunc_api_ACL_api_ACL__model_ACL_1 a0 a1c0) := by
  have hM := maxLen_eq
  unfold M.slices_IndexFunc_api_ACL_api_ACL__model_ACL_1 S.slices_IndexFunc_api_ACL_api_ACL__model_ACL_1
  refine s_bind (s_slices_IndexFunc_api_ACL_api_ACL__model_ACL_1_l1 a0 a1c0 ha0 ha1c0 0) (fun y4 hey4 => ?_)
  refine s_elim (fun _ hl => ?_) (fun y6 hly6 => ?_)
  · rfl
  · rfl
noncomputable def S.model_ACL (a0 : TRouter) (a1 : ByteArray) : Int :=
  letS (S.slices_IndexFunc_api_ACL_api_ACL__model_ACL_1 a0.fACLs a1) (fun r1 => r1)
theorem s_model_ACL (a0 : TRouter) (a1 : ByteArray) (ha0 : L_TRouter a0) (ha1 : a1.size ≤ maxLen) : M.model_ACL a0 a1 = some (S.model_ACL a0 a1) := by
  have hM := maxLen_eq
  unfold M.model_ACL S.model_ACL
  refine s_bind (s_slices_IndexFunc_api_ACL_api_ACL__model_ACL_1 a0.fACLs a1 (L_TRouter.fACLs ha0) ha1) (fun r1 her1 => ?_)
  rfl
noncomputable def S.model_rightPorts (a0 : TPortRange) : Bool :=
  ((decide (0 ≤ a0.fLo)) && (decide (a0.fLo ≤ a0.fHi))) && (decide (a0.fHi ≤ 65535))
theorem s_model_rightPorts (a0 : TPortRange)  : M.model_rightPorts a0 = some (S.model_rightPorts a0) := by
  have hM := maxLen_eq
  unfold M.model_rightPorts S.model_rightPorts
  rfl
noncomputable def S.model_rightRule (a0 : TRule) : Bool :=
  letS (S.model_within a0.fProto (-1) 255) (fun r1 => bif ((!r1) || ((bitD .and .u32 a0.fSrc.fAddr a0.fSrc.fMask) != 0)) || ((bitD .and .u32 a0.fDst.fAddr a0.fDst.fMask) != 0) then false else (letS (S.model_rightPorts a0.fSrcPorts) (fun r2 => letS (bif (!(!r2)) then S.model_rightPorts a0.fDstPorts else default) (fun r3 => bif (!r2) || (!r3) then false else (((a0.fProto == 6) || (a0.fProto == 17)) || (((a0.fSrcPorts.fLo == 0) && ((a0.fSrcPorts.fHi == 65535) && true)) && ((a0.fDstPorts.fLo == 0) && ((a0.fDstPorts.fHi == 65535) && true))))))))
theorem s_model_rightRule (a0 : TRule)  : M.model_rightRule a0 = some (S.model_rightRule a0) := by
  have hM := maxLen_eq
  unfold M.model_rightRule S.model_rightRule
  refine s_bind (s_model_within a0.fProto (-1) 255) (fun r1 her1 => ?_)
  refine s_if (fun hb1 => ?_) (fun hb1 => ?_)
  · rfl
  · refine s_bind (s_model_rightPorts a0.fSrcPorts) (fun r2 her2 => ?_)
    refine s_bind (s_gc fun hg => (s_model_rightPorts a0.fDstPorts)) (fun r3 her3 => ?_)
    refine s_if (fun hb2 => ?_) (fun hb2 => ?_)
    · rfl
    · rfl
noncomputable def S.model_checkACLs_l2 (a0 : TRouter) (i1 : Nat) (i5 : Nat) : Option (Unit ⊕ Int) :=
  letS (S.model_rightRule (((a0.fACLs.getD i1 default).fRules).getD i5 default)) (fun r7 => bif !r7 then (some (.inr 1)) else none)
theorem s_model_checkACLs_l2 (a0 : TRouter) (i1 : Nat) (ha0 : L_TRouter a0) (hi1 : i1 < a0.fACLs.length) (i0 : Nat) : loopM (M.model_checkACLs_l2 a0 (i1 : Int)) (i0 : Int) = some (runN (S.model_checkACLs_l2 a0 i1) (.inl ()) i0 (((a0.fACLs.getD i1 default).fRules).length - i0)) := by
  have hM := maxLen_eq
  have hni1 : a0.fACLs.length ≤ maxLen := (L_TRouter.fACLs ha0).1
  have hni5 : ((a0.fACLs.getD i1 default).fRules).length ≤ maxLen := (L_TACL.fRules (LL.getD (L_TRouter.fACLs ha0) L_TACL.dflt i1))
  refine loop_runN (n := ((a0.fACLs.getD i1 default).fRules).length) (fun i5 hi5 => ?_) (fun m hm => ?_) i0
  · unfold M.model_checkACLs_l2 S.model_checkACLs_l2
    try simp only [Int.toNat_natCast]
    refine s_then (dt (by omega)) ?_
    refine s_gd (all_c (dt (by omega)) (all_c (dt (by omega)) all_n)) ?_
    refine s_bindN (s_model_rightRule (((a0.fACLs.getD i1 default).fRules).getD i5 default)) (fun r7 her7 => ?_)
    refine s_ifN (fun hb3 => ?_) (fun hb3 => ?_)
    · exact s_out
    · exact s_up (by omega)
  · unfold M.model_checkACLs_l2
    try simp only [Int.toNat_natCast]
    exact s_else (decide_eq_false (by omega)) rfl
noncomputable def S.model_checkACLs_l1 (a0 : TRouter) (i1 : Nat) : Option (Unit ⊕ Int) :=
  letS (S.model_ACL a0 ((a0.fACLs.getD i1 default).fName)) (fun r3 => letS (S.model_checkList (i1 : Int) r3 ((a0.fACLs.getD i1 default).fName) (((a0.fACLs.getD i1 default).fRules).length : Int) 16) (fun r4 => bif r4 != 0 then (some (.inr r4)) else (letS (runN (S.model_checkACLs_l2 a0 i1) (.inl ()) 0 (((a0.fACLs.getD i1 default).fRules).length)) (fun y8 => Sum.elim (fun _ => none) (fun y10 => some (.inr y10)) y8))))
theorem s_model_checkACLs_l1 (a0 : TRouter) (ha0 : L_TRouter a0) (i0 : Nat) : loopM (M.model_checkACLs_l1 a0) (i0 : Int) = some (runN (S.model_checkACLs_l1 a0) (.inl ()) i0 (a0.fACLs.length - i0)) := by
  have hM := maxLen_eq
  have hni1 : a0.fACLs.length ≤ maxLen := (L_TRouter.fACLs ha0).1
  refine loop_runN (n := a0.fACLs.length) (fun i1 hi1 => ?_) (fun m hm => ?_) i0
  · unfold M.model_checkACLs_l1 S.model_checkACLs_l1
    try simp only [Int.toNat_natCast]
    refine s_then (dt (by omega)) ?_
    refine s_gd (all_c (dt (by omega)) (all_c (dt (by omega)) all_n)) ?_
    refine s_bindN (s_model_ACL a0 ((a0.fACLs.getD i1 default).fName) ha0 (L_TACL.fName (LL.getD (L_TRouter.fACLs ha0) L_TACL.dflt i1))) (fun r3 her3 => ?_)
    refine s_bindN (s_model_checkList (i1 : Int) r3 ((a0.fACLs.getD i1 default).fName) (((a0.fACLs.getD i1 default).fRules).length : Int) 16 (L_TACL.fName (LL.getD (L_TRouter.fACLs ha0) L_TACL.dflt i1))) (fun r4 her4 => ?_)
    refine s_ifN (fun hb2 => ?_) (fun hb2 => ?_)
    · exact s_out
    · refine s_bindN (s_model_checkACLs_l2 a0 i1 ha0 hi1 0) (fun y8 hey8 => ?_)
      refine s_elimN (fun _ hl => ?_) (fun y10 hly10 => ?_)
      · exact s_up (by omega)
      · exact s_out
  · unfold M.model_checkACLs_l1
    try simp only [Int.toNat_natCast]
    exact s_else (decide_eq_false (by omega)) rfl
noncomputable def S.model_checkACLs (a0 : TRouter) : Int :=
  bif decide ((a0.fACLs.length : Int) > 8) then 7 else (letS (runN (S.model_checkACLs_l1 a0) (.inl ()) 0 a0.fACLs.length) (fun y11 => Sum.elim (fun _ => 0) (fun y13 => y13) y11))
theorem s_model_checkACLs (a0 : TRouter) (ha0 : L_TRouter a0) : M.model_checkACLs a0 = some (S.model_checkACLs a0) := by
  have hM := maxLen_eq
  unfold M.model_checkACLs S.model_checkACLs
  refine s_if (fun hb1 => ?_) (fun hb1 => ?_)
  · rfl
  · refine s_bind (s_model_checkACLs_l1 a0 ha0 0) (fun y11 hey11 => ?_)
    refine s_elim (fun _ hl => ?_) (fun y13 hly13 => ?_)
    · rfl
    · rfl
noncomputable def S.model_rightTranslation (a0 : TTranslation) : Bool :=
  bif a0.fKind == 1 then ((((a0.fKind == a0.fKind) && ((a0.fInside == a0.fInside) && ((a0.fOutside == a0.fOutside) && ((a0.fProto == 0) && ((a0.fInsidePort == 0) && ((a0.fOutsidePort == 0) && (strEq a0.fList (⟨#[]⟩ : ByteArray) && ((a0.fLo == 0) && ((a0.fHi == 0) && true))))))))) && (a0.fInside != 0)) && (a0.fOutside != 0)) else (bif a0.fKind == 2 then (((((a0.fKind == a0.fKind) && ((a0.fInside == 0) && ((a0.fOutside == 0) && ((a0.fProto == 0) && ((a0.fInsidePort == 0) && ((a0.fOutsidePort == 0) && (strEq a0.fList a0.fList && ((a0.fLo == a0.fLo) && ((a0.fHi == a0.fHi) && true))))))))) && (a0.fLo != 0)) && (decide (a0.fLo ≤ a0.fHi))) && (decide ((wr .u32 (a0.fHi - a0.fLo)) < 8))) else (bif a0.fKind == 3 then (letS (bif (((a0.fInside != 0) && (a0.fOutside != 0)) && ((a0.fProto == 6) || (a0.fProto == 17))) then S.model_within a0.fInsidePort 0 65535 else default) (fun r1 => letS (bif ((((a0.fInside != 0) && (a0.fOutside != 0)) && ((a0.fProto == 6) || (a0.fProto == 17))) && r1) then S.model_within a0.fOutsidePort 0 65535 else default) (fun r2 => (((((((a0.fInside != 0) && (a0.fOutside != 0)) && ((a0.fProto == 6) || (a0.fProto == 17))) && r1) && r2) && (strEq a0.fList (⟨#[]⟩ : ByteArray))) && (a0.fLo == 0)) && (a0.fHi == 0)))) else false))
theorem s_model_rightTranslation (a0 : TTranslation) (ha0 : L_TTranslation a0) : M.model_rightTranslation a0 = some (S.model_rightTranslation a0) := by
  have hM := maxLen_eq
  unfold M.model_rightTranslation S.model_rightTranslation
  refine s_if (fun hb1 => ?_) (fun hb1 => ?_)
  · rfl
  · refine s_if (fun hb2 => ?_) (fun hb2 => ?_)
    · rfl
    · refine s_if (fun hb3 => ?_) (fun hb3 => ?_)
      · refine s_bind (s_gc fun hg => (s_model_within a0.fInsidePort 0 65535)) (fun r1 her1 => ?_)
        refine s_bind (s_gc fun hg => (s_model_within a0.fOutsidePort 0 65535)) (fun r2 her2 => ?_)
        rfl
      · rfl
noncomputable def S.model_checkNAT_l1 (a0 : TRouter) (i1 : Nat) : Option (Unit ⊕ Int) :=
  letS (S.model_rightTranslation (a0.fNAT.getD i1 default)) (fun r3 => bif !r3 then (some (.inr 1)) else (letS (bif (((a0.fNAT.getD i1 default).fKind) == 2) then S.model_ACL a0 ((a0.fNAT.getD i1 default).fList) else default) (fun r4 => bif (((a0.fNAT.getD i1 default).fKind) == 2) && (decide (r4 < 0)) then (some (.inr 5)) else none)))
theorem s_model_checkNAT_l1 (a0 : TRouter) (ha0 : L_TRouter a0) (i0 : Nat) : loopM (M.model_checkNAT_l1 a0) (i0 : Int) = some (runN (S.model_checkNAT_l1 a0) (.inl ()) i0 (a0.fNAT.length - i0)) := by
  have hM := maxLen_eq
  have hni1 : a0.fNAT.length ≤ maxLen := (L_TRouter.fNAT ha0).1
  refine loop_runN (n := a0.fNAT.length) (fun i1 hi1 => ?_) (fun m hm => ?_) i0
  · unfold M.model_checkNAT_l1 S.model_checkNAT_l1
    try simp only [Int.toNat_natCast]
    refine s_then (dt (by omega)) ?_
    refine s_gd (all_c (dt (by omega)) (all_c (dt (by omega)) all_n)) ?_
    refine s_bindN (s_model_rightTranslation (a0.fNAT.getD i1 default) (LL.getD (L_TRouter.fNAT ha0) L_TTranslation.dflt i1)) (fun r3 her3 => ?_)
    refine s_ifN (fun hb2 => ?_) (fun hb2 => ?_)
    · exact s_out
    · refine s_bindN (s_gc fun hg => (s_model_ACL a0 ((a0.fNAT.getD i1 default).fList) ha0 (L_TTranslation.fList (LL.getD (L_TRouter.fNAT ha0) L_TTranslation.dflt i1)))) (fun r4 her4 => ?_)
      refine s_ifN (fun hb3 => ?_) (fun hb3 => ?_)
      · exact s_out
      · exact s_up (by omega)
  · unfold M.model_checkNAT_l1
    try simp only [Int.toNat_natCast]
    exact s_else (decide_eq_false (by omega)) rfl
noncomputable def S.model_checkNAT (a0 : TRouter) : Int :=
  bif decide ((a0.fNAT.length : Int) > 8) then 7 else (letS (runN (S.model_checkNAT_l1 a0) (.inl ()) 0 a0.fNAT.length) (fun y5 => Sum.elim (fun _ => 0) (fun y7 => y7) y5))
theorem s_model_checkNAT (a0 : TRouter) (ha0 : L_TRouter a0) : M.model_checkNAT a0 = some (S.model_checkNAT a0) := by
  have hM := maxLen_eq
  unfold M.model_checkNAT S.model_checkNAT
  refine s_if (fun hb1 => ?_) (fun hb1 => ?_)
  · rfl
  · refine s_bind (s_model_checkNAT_l1 a0 ha0 0) (fun y5 hey5 => ?_)
    refine s_elim (fun _ hl => ?_) (fun y7 hly7 => ?_)
    · rfl
    · rfl
noncomputable def S.model_checkFilters_l1 (a0 : TRouter) (i1 : Nat) : Option (Unit ⊕ Int) :=
  letS (bif (!strEq ((a0.fInterfaces.getD i1 default).fIn) (⟨#[]⟩ : ByteArray)) then S.model_ACL a0 ((a0.fInterfaces.getD i1 default).fIn) else default) (fun r3 => letS (bif ((!((!strEq ((a0.fInterfaces.getD i1 default).fIn) (⟨#[]⟩ : ByteArray)) && (decide (r3 < 0)))) && (!strEq ((a0.fInterfaces.getD i1 default).fOut) (⟨#[]⟩ : ByteArray))) then S.model_ACL a0 ((a0.fInterfaces.getD i1 default).fOut) else default) (fun r4 => bif ((!strEq ((a0.fInterfaces.getD i1 default).fIn) (⟨#[]⟩ : ByteArray)) && (decide (r3 < 0))) || ((!strEq ((a0.fInterfaces.getD i1 default).fOut) (⟨#[]⟩ : ByteArray)) && (decide (r4 < 0))) then (some (.inr 5)) else none))
theorem s_model_checkFilters_l1 (a0 : TRouter) (ha0 : L_TRouter a0) (i0 : Nat) : loopM (M.model_checkFilters_l1 a0) (i0 : Int) = some (runN (S.model_checkFilters_l1 a0) (.inl ()) i0 (a0.fInterfaces.length - i0)) := by
  have hM := maxLen_eq
  have hni1 : a0.fInterfaces.length ≤ maxLen := (L_TRouter.fInterfaces ha0).1
  refine loop_runN (n := a0.fInterfaces.length) (fun i1 hi1 => ?_) (fun m hm => ?_) i0
  · unfold M.model_checkFilters_l1 S.model_checkFilters_l1
    try simp only [Int.toNat_natCast]
    refine s_then (dt (by omega)) ?_
    refine s_gd (all_c (dt (by omega)) (all_c (dt (by omega)) all_n)) ?_
    refine s_bindN (s_gc fun hg => (s_model_ACL a0 ((a0.fInterfaces.getD i1 default).fIn) ha0 (L_TInterface.fIn (LL.getD (L_TRouter.fInterfaces ha0) L_TInterface.dflt i1)))) (fun r3 her3 => ?_)
    refine s_bindN (s_gc fun hg => (s_model_ACL a0 ((a0.fInterfaces.getD i1 default).fOut) ha0 (L_TInterface.fOut (LL.getD (L_TRouter.fInterfaces ha0) L_TInterface.dflt i1)))) (fun r4 her4 => ?_)
    refine s_ifN (fun hb1 => ?_) (fun hb1 => ?_)
    · exact s_out
    · exact s_up (by omega)
  · unfold M.model_checkFilters_l1
    try simp only [Int.toNat_natCast]
    exact s_else (decide_eq_false (by omega)) rfl
noncomputable def S.model_checkFilters (a0 : TRouter) : Int :=
  letS (runN (S.model_checkFilters_l1 a0) (.inl ()) 0 a0.fInterfaces.length) (fun y5 => Sum.elim (fun _ => 0) (fun y7 => y7) y5)
theorem s_model_checkFilters (a0 : TRouter) (ha0 : L_TRouter a0) : M.model_checkFilters a0 = some (S.model_checkFilters a0) := by
  have hM := maxLen_eq
  unfold M.model_checkFilters S.model_checkFilters
  refine s_bind (s_model_checkFilters_l1 a0 ha0 0) (fun y5 hey5 => ?_)
  refine s_elim (fun _ hl => ?_) (fun y7 hly7 => ?_)
  · rfl
  · rfl
noncomputable def S.model_Address_1 (a0 : TInterface) (b0 : Int) : Bool :=
  (a0.fLen != 0) && (a0.fAddr == b0)
theorem s_model_Address_1 (a0 : TInterface) (b0 : Int) (ha0 : L_TInterface a0) : M.model_Address_1 a0 b0 = some (S.model_Address_1 a0 b0) := by
  have hM := maxLen_eq
  unfold M.model_Address_1 S.model_Address_1
  rfl
noncomputable def S.slices_IndexFunc_api_Interface_api_Interface__model_Address_1_l1 (a0 : List TInterface) (a1c0 : Int) (i1 : Nat) : Option (Unit ⊕ Int) :=
  letS (S.model_Address_1 (a0.getD i1 default) a1c0) (fun r3 => bif r3 then (some (.inr (i1 : Int))) else none)
theorem s_slices_IndexFunc_api_Interface_api_Interface__model_Address_1_l1 (a0 : List TInterface) (a1c0 : Int) (ha0 : LL L_TInterface a0) (i0 : Nat) : loopM (M.slices_IndexFunc_api_Interface_api_Interface__model_Address_1_l1 a0 a1c0) (i0 : Int) = some (runN (S.slices_IndexFunc_api_Interface_api_Interface__model_Address_1_l1 a0 a1c0) (.inl ()) i0 (a0.length - i0)) := by
  have hM := maxLen_eq
  have hni1 : a0.length ≤ maxLen := ha0.1
  refine loop_runN (n := a0.length) (fun i1 hi1 => ?_) (fun m hm => ?_) i0
  · unfold M.slices_IndexFunc_api_Interface_api_Interface__model_Address_1_l1 S.slices_IndexFunc_api_Interface_api_Interface__model_Address_1_l1
    try simp only [Int.toNat_natCast]
    refine s_then (dt (by omega)) ?_
    refine s_bindN (s_model_Address_1 (a0.getD i1 default) a1c0 (LL.getD ha0 L_TInterface.dflt i1)) (fun r3 her3 => ?_)
    refine s_gd (all_c (dt (by omega)) (all_c (dt (by omega)) all_n)) ?_
    refine s_ifN (fun hb1 => ?_) (fun hb1 => ?_)
    · exact s_out
    · exact s_up (by omega)
  · unfold M.slices_IndexFunc_api_Interface_api_Interface__model_Address_1_l1
    try simp only [Int.toNat_natCast]
    exact s_else (decide_eq_false (by omega)) rfl
noncomputable def S.slices_IndexFunc_api_Interface_api_Interface__model_Address_1 (a0 : List TInterface) (a1c0 : Int) : Int :=
  letS (runN (S.slices_IndexFunc_api_Interface_api_Interface__model_Address_1_l1 a0 a1c0) (.inl ()) 0 a0.length) (fun y4 => Sum.elim (fun _ => -1) (fun y6 => y6) y4)
theorem s_slices_IndexFunc_api_Interface_api_Interface__model_Address_1 (a0 : List TInterface) (a1c0 : Int) (ha0 : LL L_TInterface a0) : M.slices_IndexFunc_api_Interface_api_Interface__model_Address_1 a0 a1c0 = some (S.slices_IndexFunc_api_Interface_api_Interface__model_Address_1 a0 a1c0) := by
  have hM := maxLen_eq
  unfold M.slices_IndexFunc_api_Interface_api_Interface__model_Address_1 S.slices_IndexFunc_api_Interface_api_Interface__model_Address_1
  refine s_bind (s_slices_IndexFunc_api_Interface_api_Interface__model_Address_1_l1 a0 a1c0 ha0 0) (fun y4 hey4 => ?_)
  refine s_elim (fun _ hl => ?_) (fun y6 hly6 => ?_)
  · rfl
  · rfl
noncomputable def S.model_Address (a0 : TRouter) (a1 : Int) : Int :=
  letS (S.slices_IndexFunc_api_Interface_api_Interface__model_Address_1 a0.fInterfaces a1) (fun r1 => r1)
theorem s_model_Address (a0 : TRouter) (a1 : Int) (ha0 : L_TRouter a0) : M.model_Address a0 a1 = some (S.model_Address a0 a1) := by
  have hM := maxLen_eq
  unfold M.model_Address S.model_Address
  refine s_bind (s_slices_IndexFunc_api_Interface_api_Interface__model_Address_1 a0.fInterfaces a1 (L_TRouter.fInterfaces ha0)) (fun r1 her1 => ?_)
  rfl
noncomputable def S.model_rightStatic_k1 (i1 : Nat) (s1 : Int) (p3 : Int) : Int ⊕ Int :=
  .inl (p3)
theorem s_model_rightStatic_k1 (i1 : Nat) (s1 : Int) (p3 : Int) (hi1 : i1 < 3) : M.model_rightStatic_k1 (s1, (i1 : Int)) p3 = some (rdT (fun (i : Nat) (s1 : Int) => (s1, (i : Int))) (S.model_rightStatic_k1 i1 s1 p3) i1) := by
  have hM := maxLen_eq
  have hni1 : 3 ≤ maxLen := (by omega)
  unfold M.model_rightStatic_k1 S.model_rightStatic_k1
  try simp only [Int.toNat_natCast]
  rw [up_i64 (by omega)]
  rfl
noncomputable def S.model_rightStatic_l1 (a1 : TStaticRoute) (i1 : Nat) (s1 : Int) : Int ⊕ Int :=
  bif ([a1.fNext != 0, !strEq a1.fIface (⟨#[]⟩ : ByteArray), a1.fDiscard] : List Bool).getD i1 default then (S.model_rightStatic_k1 i1 s1 (wr .i64 (s1 + 1))) else (S.model_rightStatic_k1 i1 s1 s1)
theorem s_model_rightStatic_l1 (a1 : TStaticRoute) (ha1 : L_TStaticRoute a1) (i0 : Nat) (s0 : Int) : loopM (M.model_rightStatic_l1 a1) ((fun (i : Nat) (s1 : Int) => (s1, (i : Int))) i0 s0) = some (runT (S.model_rightStatic_l1 a1) (fun s1 => s1) i0 (3 - i0) s0) := by
  have hM := maxLen_eq
  have hni1 : 3 ≤ maxLen := (by omega)
  refine loop_runT (n := 3) (mk := (fun (i : Nat) (s1 : Int) => (s1, (i : Int)))) (fun i1 s1 hi1 => ?_) (fun m s1 hm => ?_) i0 s0
  · unfold M.model_rightStatic_l1 S.model_rightStatic_l1
    try simp only [Int.toNat_natCast]
    refine s_then (dt (by omega)) ?_
    refine s_gd (all_c (dt (by omega)) (all_c (dt (by simp; omega)) all_n)) ?_
    refine s_ifT (fun hb1 => ?_) (fun hb1 => ?_)
    · exact s_model_rightStatic_k1 i1 s1 (wr .i64 (s1 + 1)) hi1
    · exact s_model_rightStatic_k1 i1 s1 s1 hi1
  · unfold M.model_rightStatic_l1
    try simp only [Int.toNat_natCast]
    exact s_else (decide_eq_false (by omega)) rfl
noncomputable def S.model_rightStatic (a0 : TRouter) (a1 : TStaticRoute) : Bool :=
  letS (runT (S.model_rightStatic_l1 a1) (fun s1 => s1) 0 3 (0)) (fun y4 => letS (S.addr_Valid a1.fPrefix) (fun r5 => letS (bif ((r5 && (y4 == 1)) && !(a1.fNext == 0)) then S.model_Address a0 a1.fNext else default) (fun r6 => letS (bif ((r5 && (y4 == 1)) && ((a1.fNext == 0) || (decide (r6 < 0)))) then S.model_within a1.fAdmin 1 255 else default) (fun r7 => letS (bif (((r5 && (y4 == 1)) && ((a1.fNext == 0) || (decide (r6 < 0)))) && r7) then S.model_within a1.fTag 0 65535 else default) (fun r8 => (((r5 && (y4 == 1)) && ((a1.fNext == 0) || (decide (r6 < 0)))) && r7) && r8)))))
theorem s_model_rightStatic (a0 : TRouter) (a1 : TStaticRoute) (ha0 : L_TRouter a0) (ha1 : L_TStaticRoute a1) : M.model_rightStatic a0 a1 = some (S.model_rightStatic a0 a1) := by
  have hM := maxLen_eq
  unfold M.model_rightStatic S.model_rightStatic
  refine s_bind (s_model_rightStatic_l1 a1 ha1 0 (0)) (fun y4 hey4 => ?_)
  refine s_bind (s_addr_Valid a1.fPrefix) (fun r5 her5 => ?_)
  refine s_bind (s_gc fun hg => (s_model_Address a0 a1.fNext ha0)) (fun r6 her6 => ?_)
  refine s_bind (s_gc fun hg => (s_model_within a1.fAdmin 1 255)) (fun r7 her7 => ?_)
  refine s_bind (s_gc fun hg => (s_model_within a1.fTag 0 65535)) (fun r8 her8 => ?_)
  rfl
noncomputable def S.model_checkStatics_l2 (a0 : TRouter) (i1 : Nat) (i5 : Nat) : Option (Unit ⊕ Int) :=
  bif (((((((a0.fStatics.drop 0).take (i1 - 0)).getD i5 default).fPrefix).fAddr) == (((a0.fStatics.getD i1 default).fPrefix).fAddr)) && (((((((a0.fStatics.drop 0).take (i1 - 0)).getD i5 default).fPrefix).fLen) == (((a0.fStatics.getD i1 default).fPrefix).fLen)) && true)) && (((((a0.fStatics.drop 0).take (i1 - 0)).getD i5 default).fAdmin) == ((a0.fStatics.getD i1 default).fAdmin)) then (some (.inr 6)) else none
theorem s_model_checkStatics_l2 (a0 : TRouter) (i1 : Nat) (ha0 : L_TRouter a0) (hi1 : i1 < a0.fStatics.length) (i0 : Nat) : loopM (M.model_checkStatics_l2 a0 (i1 : Int)) (i0 : Int) = some (runN (S.model_checkStatics_l2 a0 i1) (.inl ()) i0 (i1 - i0)) := by
  have hM := maxLen_eq
  have hni1 : a0.fStatics.length ≤ maxLen := (L_TRouter.fStatics ha0).1
  have hni5 : i1 ≤ maxLen := (by omega)
  refine loop_runN (n := i1) (fun i5 hi5 => ?_) (fun m hm => ?_) i0
  · unfold M.model_checkStatics_l2 S.model_checkStatics_l2
    try simp only [Int.toNat_natCast]
    refine s_then (dt (by omega)) ?_
    refine s_gd (all_c (dt (by omega)) (all_c (dt (by simp; omega)) all_n)) ?_
    refine s_ifN (fun hb6 => ?_) (fun hb6 => ?_)
    · exact s_out
    · exact s_up (by omega)
  · unfold M.model_checkStatics_l2
    try simp only [Int.toNat_natCast]
    exact s_else (decide_eq_false (by omega)) rfl
noncomputable def S.model_checkStatics_k1 (a0 : TRouter) (i1 : Nat) (_p4 : Unit) : Option (Unit ⊕ Int) :=
  letS (runN (S.model_checkStatics_l2 a0 i1) (.inl ()) 0 i1) (fun y7 => Sum.elim (fun _ => none) (fun y9 => some (.inr y9)) y7)
theorem s_model_checkStatics_k1 (a0 : TRouter) (i1 : Nat) (_p4 : Unit) (ha0 : L_TRouter a0) (hi1 : i1 < a0.fStatics.length) : M.model_checkStatics_k1 a0 (i1 : Int) _p4 = some (rdN (S.model_checkStatics_k1 a0 i1 _p4) i1) := by
  have hM := maxLen_eq
  have hni1 : a0.fStatics.length ≤ maxLen := (L_TRouter.fStatics ha0).1
  unfold M.model_checkStatics_k1 S.model_checkStatics_k1
  try simp only [Int.toNat_natCast]
  refine s_gd (all_c (dt (by omega)) (all_c (dt (by omega)) all_n)) ?_
  refine s_bindN (s_model_checkStatics_l2 a0 i1 ha0 hi1 0) (fun y7 hey7 => ?_)
  refine s_elimN (fun _ hl => ?_) (fun y9 hly9 => ?_)
  · exact s_up (by omega)
  · exact s_out
noncomputable def S.model_checkStatics_l1 (a0 : TRouter) (i1 : Nat) : Option (Unit ⊕ Int) :=
  letS (S.model_rightStatic a0 (a0.fStatics.getD i1 default)) (fun r3 => bif !r3 then (some (.inr 1)) else (bif !strEq ((a0.fStatics.getD i1 default).fIface) (⟨#[]⟩ : ByteArray) then (letS (S.model_Interface a0 ((a0.fStatics.getD i1 default).fIface)) (fun r10 => bif decide (r10 < 0) then (some (.inr 5)) else (bif ((a0.fInterfaces.getD r10.toNat default).fLen) == 0 then (some (.inr 1)) else (S.model_checkStatics_k1 a0 i1 ())))) else (S.model_checkStatics_k1 a0 i1 ())))
theorem s_model_checkStatics_l1 (a0 : TRouter) (ha0 : L_TRouter a0) (i0 : Nat) : loopM (M.model_checkStatics_l1 a0) (i0 : Int) = some (runN (S.model_checkStatics_l1 a0) (.inl ()) i0 (a0.fStatics.length - i0)) := by
  have hM := maxLen_eq
  have hni1 : a0.fStatics.length ≤ maxLen := (L_TRouter.fStatics ha0).1
  refine loop_runN (n := a0.fStatics.length) (fun i1 hi1 => ?_) (fun m hm => ?_) i0
  · unfold M.model_checkStatics_l1 S.model_checkStatics_l1
    try simp only [Int.toNat_natCast]
    refine s_then (dt (by omega)) ?_
    refine s_gd (all_c (dt (by omega)) (all_c (dt (by omega)) all_n)) ?_
    refine s_bindN (s_model_rightStatic a0 (a0.fStatics.getD i1 default) ha0 (LL.getD (L_TRouter.fStatics ha0) L_TStaticRoute.dflt i1)) (fun r3 her3 => ?_)
    refine s_ifN (fun hb2 => ?_) (fun hb2 => ?_)
    · exact s_out
    · refine s_ifN (fun hb3 => ?_) (fun hb3 => ?_)
      · refine s_bindN (s_model_Interface a0 ((a0.fStatics.getD i1 default).fIface) ha0 (L_TStaticRoute.fIface (LL.getD (L_TRouter.fStatics ha0) L_TStaticRoute.dflt i1))) (fun r10 her10 => ?_)
        have hrr10 := rng_model_Interface a0 ((a0.fStatics.getD i1 default).fIface)
        refine s_ifN (fun hb4 => ?_) (fun hb4 => ?_)
        · exact s_out
        · refine s_gd (all_c (dt (by first | omega | (simp; omega) | (simp at *; omega))) (all_c (dt (by first | omega | (simp; omega) | (simp at *; omega))) all_n)) ?_
          refine s_ifN (fun hb5 => ?_) (fun hb5 => ?_)
          · exact s_out
          · exact s_model_checkStatics_k1 a0 i1 () ha0 hi1
      · exact s_model_checkStatics_k1 a0 i1 () ha0 hi1
  · unfold M.model_checkStatics_l1
    try simp only [Int.toNat_natCast]
    exact s_else (decide_eq_false (by omega)) rfl
noncomputable def S.model_checkStatics (a0 : TRouter) : Int :=
  bif decide ((a0.fStatics.length : Int) > 16) then 7 else (letS (runN (S.model_checkStatics_l1 a0) (.inl ()) 0 a0.fStatics.length) (fun y11 => Sum.elim (fun _ => 0) (fun y13 => y13) y11))
theorem s_model_checkStatics (a0 : TRouter) (ha0 : L_TRouter a0) : M.model_checkStatics a0 = some (S.model_checkStatics a0) := by
  have hM := maxLen_eq
  unfold M.model_checkStatics S.model_checkStatics
  refine s_if (fun hb1 => ?_) (fun hb1 => ?_)
  · rfl
  · refine s_bind (s_model_checkStatics_l1 a0 ha0 0) (fun y11 hey11 => ?_)
    refine s_elim (fun _ hl => ?_) (fun y13 hly13 => ?_)
    · rfl
    · rfl
noncomputable def S.model_checkRedist_l2 (a1 : List TRedist) (i1 : Nat) (i8 : Nat) : Option (Unit ⊕ Int) :=
  bif ((((a1.drop 0).take (i1 - 0)).getD i8 default).fFrom) == ((a1.getD i1 default).fFrom) then (some (.inr 4)) else none
theorem s_model_checkRedist_l2 (a1 : List TRedist) (i1 : Nat) (ha1 : LL L_TRedist a1) (hi1 : i1 < a1.length) (i0 : Nat) : loopM (M.model_checkRedist_l2 a1 (i1 : Int)) (i0 : Int) = some (runN (S.model_checkRedist_l2 a1 i1) (.inl ()) i0 (i1 - i0)) := by
  have hM := maxLen_eq
  have hni1 : a1.length ≤ maxLen := ha1.1
  have hni8 : i1 ≤ maxLen := (by omega)
  refine loop_runN (n := i1) (fun i8 hi8 => ?_) (fun m hm => ?_) i0
  · unfold M.model_checkRedist_l2 S.model_checkRedist_l2
    try simp only [Int.toNat_natCast]
    refine s_then (dt (by omega)) ?_
    refine s_gd (all_c (dt (by omega)) (all_c (dt (by simp; omega)) all_n)) ?_
    refine s_ifN (fun hb4 => ?_) (fun hb4 => ?_)
    · exact s_out
    · exact s_up (by omega)
  · unfold M.model_checkRedist_l2
    try simp only [Int.toNat_natCast]
    exact s_else (decide_eq_false (by omega)) rfl
noncomputable def S.model_checkRedist_l1 (a0 : TRouter) (a1 : List TRedist) (a2 : Int) (a3 : Int) (a4 : Int) (a5 : Int) (i1 : Nat) : Option (Unit ⊕ Int) :=
  letS (S.model_within ((a1.getD i1 default).fFrom) 1 5) (fun r3 => letS (bif (!((!r3) || (((a1.getD i1 default).fFrom) == a2))) then S.model_within ((a1.getD i1 default).fMetric) a3 a4 else default) (fun r4 => letS (bif (!(((!r3) || (((a1.getD i1 default).fFrom) == a2)) || (!r4))) then S.model_within ((a1.getD i1 default).fTag) 0 65535 else default) (fun r5 => letS (bif (!((((!r3) || (((a1.getD i1 default).fFrom) == a2)) || (!r4)) || (!r5))) then S.model_within ((a1.getD i1 default).fType) (if a5 < 1 then a5 else 1) a5 else default) (fun r6 => bif ((((!r3) || (((a1.getD i1 default).fFrom) == a2)) || (!r4)) || (!r5)) || (!r6) then (some (.inr 1)) else (letS (bif (!strEq ((a1.getD i1 default).fMap) (⟨#[]⟩ : ByteArray)) then S.model_RouteMap a0 ((a1.getD i1 default).fMap) else default) (fun r7 => bif (!strEq ((a1.getD i1 default).fMap) (⟨#[]⟩ : ByteArray)) && (decide (r7 < 0)) then (some (.inr 5)) else (letS (runN (S.model_checkRedist_l2 a1 i1) (.inl ()) 0 i1) (fun y10 => Sum.elim (fun _ => none) (fun y12 => some (.inr y12)) y10))))))))
theorem s_model_checkRedist_l1 (a0 : TRouter) (a1 : List TRedist) (a2 : Int) (a3 : Int) (a4 : Int) (a5 : Int) (ha0 : L_TRouter a0) (ha1 : LL L_TRedist a1) (i0 : Nat) : loopM (M.model_checkRedist_l1 a0 a1 a2 a3 a4 a5) (i0 : Int) = some (runN (S.model_checkRedist_l1 a0 a1 a2 a3 a4 a5) (.inl ()) i0 (a1.length - i0)) := by
  have hM := maxLen_eq
  have hni1 : a1.length ≤ maxLen := ha1.1
  refine loop_runN (n := a1.length) (fun i1 hi1 => ?_) (fun m hm => ?_) i0
  · unfold M.model_checkRedist_l1 S.model_checkRedist_l1
    try simp only [Int.toNat_natCast]
    refine s_then (dt (by omega)) ?_
    refine s_gd (all_c (dt (by omega)) (all_c (dt (by omega)) all_n)) ?_
    refine s_bindN (s_model_within ((a1.getD i1 default).fFrom) 1 5) (fun r3 her3 => ?_)
    refine s_bindN (s_gc fun hg => (s_model_within ((a1.getD i1 default).fMetric) a3 a4)) (fun r4 her4 => ?_)
    refine s_bindN (s_gc fun hg => (s_model_within ((a1.getD i1 default).fTag) 0 65535)) (fun r5 her5 => ?_)
    refine s_bindN (s_gc fun hg => (s_model_within ((a1.getD i1 default).fType) (if a5 < 1 then a5 else 1) a5)) (fun r6 her6 => ?_)
    refine s_ifN (fun hb2 => ?_) (fun hb2 => ?_)
    · exact s_out
    · refine s_bindN (s_gc fun hg => (s_model_RouteMap a0 ((a1.getD i1 default).fMap) ha0 (L_TRedist.fMap (LL.getD ha1 L_TRedist.dflt i1)))) (fun r7 her7 => ?_)
      refine s_ifN (fun hb3 => ?_) (fun hb3 => ?_)
      · exact s_out
      · refine s_gd (all_c (dt (by omega)) (all_c (dt (by omega)) all_n)) ?_
        refine s_bindN (s_model_checkRedist_l2 a1 i1 ha1 hi1 0) (fun y10 hey10 => ?_)
        refine s_elimN (fun _ hl => ?_) (fun y12 hly12 => ?_)
        · exact s_up (by omega)
        · exact s_out
  · unfold M.model_checkRedist_l1
    try simp only [Int.toNat_natCast]
    exact s_else (decide_eq_false (by omega)) rfl
noncomputable def S.model_checkRedist (a0 : TRouter) (a1 : List TRedist) (a2 : Int) (a3 : Int) (a4 : Int) (a5 : Int) : Int :=
  bif decide ((a1.length : Int) > 4) then 7 else (letS (runN (S.model_checkRedist_l1 a0 a1 a2 a3 a4 a5) (.inl ()) 0 a1.length) (fun y13 => Sum.elim (fun _ => 0) (fun y15 => y15) y13))
theorem s_model_checkRedist (a0 : TRouter) (a1 : List TRedist) (a2 : Int) (a3 : Int) (a4 : Int) (a5 : Int) (ha0 : L_TRouter a0) (ha1 : LL L_TRedist a1) : M.model_checkRedist a0 a1 a2 a3 a4 a5 = some (S.model_checkRedist a0 a1 a2 a3 a4 a5) := by
  have hM := maxLen_eq
  unfold M.model_checkRedist S.model_checkRedist
  refine s_if (fun hb1 => ?_) (fun hb1 => ?_)
  · rfl
  · refine s_bind (s_model_checkRedist_l1 a0 a1 a2 a3 a4 a5 ha0 ha1 0) (fun y13 hey13 => ?_)
    refine s_elim (fun _ hl => ?_) (fun y15 hly15 => ?_)
    · rfl
    · rfl
noncomputable def S.model_checkLinkState_l2 (a0 : TRouter) (i2 : Nat) (i6 : Nat) : Option (Unit ⊕ Int) :=
  letS (bif (((((a0.fLS.fRanges.drop 0).take (i2 - 0)).getD i6 default).fArea) == ((a0.fLS.fRanges.getD i2 default).fArea)) then S.addr_Overlaps ((((a0.fLS.fRanges.drop 0).take (i2 - 0)).getD i6 default).fPrefix) ((a0.fLS.fRanges.getD i2 default).fPrefix) else default) (fun r8 => bif (((((a0.fLS.fRanges.drop 0).take (i2 - 0)).getD i6 default).fArea) == ((a0.fLS.fRanges.getD i2 default).fArea)) && r8 then (some (.inr 6)) else none)
theorem s_model_checkLinkState_l2 (a0 : TRouter) (i2 : Nat) (ha0 : L_TRouter a0) (hi2 : i2 < a0.fLS.fRanges.length) (i0 : Nat) : loopM (M.model_checkLinkState_l2 a0 (i2 : Int)) (i0 : Int) = some (runN (S.model_checkLinkState_l2 a0 i2) (.inl ()) i0 (i2 - i0)) := by
  have hM := maxLen_eq
  have hni2 : a0.fLS.fRanges.length ≤ maxLen := (L_TLinkState.fRanges (L_TRouter.fLS ha0))
  have hni6 : i2 ≤ maxLen := (by omega)
  refine loop_runN (n := i2) (fun i6 hi6 => ?_) (fun m hm => ?_) i0
  · unfold M.model_checkLinkState_l2 S.model_checkLinkState_l2
    try simp only [Int.toNat_natCast]
    refine s_then (dt (by omega)) ?_
    refine s_gd (all_c (dt (by omega)) (all_c (dt (by simp; omega)) all_n)) ?_
    refine s_bindN (s_gc fun hg => (s_addr_Overlaps ((((a0.fLS.fRanges.drop 0).take (i2 - 0)).getD i6 default).fPrefix) ((a0.fLS.fRanges.getD i2 default).fPrefix))) (fun r8 her8 => ?_)
    refine s_ifN (fun hb6 => ?_) (fun hb6 => ?_)
    · exact s_out
    · exact s_up (by omega)
  · unfold M.model_checkLinkState_l2
    try simp only [Int.toNat_natCast]
    exact s_else (decide_eq_false (by omega)) rfl
noncomputable def S.model_checkLinkState_l1 (a0 : TRouter) (i2 : Nat) : Option (Unit ⊕ Int) :=
  letS (S.model_within ((a0.fLS.fRanges.getD i2 default).fArea) 0 255) (fun r4 => letS (bif (!(!r4)) then S.addr_Valid ((a0.fLS.fRanges.getD i2 default).fPrefix) else default) (fun r5 => bif (!r4) || (!r5) then (some (.inr 1)) else (letS (runN (S.model_checkLinkState_l2 a0 i2) (.inl ()) 0 i2) (fun y9 => Sum.elim (fun _ => none) (fun y11 => some (.inr y11)) y9))))
theorem s_model_checkLinkState_l1 (a0 : TRouter) (ha0 : L_TRouter a0) (i0 : Nat) : loopM (M.model_checkLinkState_l1 a0) (i0 : Int) = some (runN (S.model_checkLinkState_l1 a0) (.inl ()) i0 (a0.fLS.fRanges.length - i0)) := by
  have hM := maxLen_eq
  have hni2 : a0.fLS.fRanges.length ≤ maxLen := (L_TLinkState.fRanges (L_TRouter.fLS ha0))
  refine loop_runN (n := a0.fLS.fRanges.length) (fun i2 hi2 => ?_) (fun m hm => ?_) i0
  · unfold M.model_checkLinkState_l1 S.model_checkLinkState_l1
    try simp only [Int.toNat_natCast]
    refine s_then (dt (by omega)) ?_
    refine s_gd (all_c (dt (by omega)) (all_c (dt (by omega)) all_n)) ?_
    refine s_bindN (s_model_within ((a0.fLS.fRanges.getD i2 default).fArea) 0 255) (fun r4 her4 => ?_)
    refine s_bindN (s_gc fun hg => (s_addr_Valid ((a0.fLS.fRanges.getD i2 default).fPrefix))) (fun r5 her5 => ?_)
    refine s_ifN (fun hb5 => ?_) (fun hb5 => ?_)
    · exact s_out
    · refine s_gd (all_c (dt (by omega)) (all_c (dt (by omega)) all_n)) ?_
      refine s_bindN (s_model_checkLinkState_l2 a0 i2 ha0 hi2 0) (fun y9 hey9 => ?_)
      refine s_elimN (fun _ hl => ?_) (fun y11 hly11 => ?_)
      · exact s_up (by omega)
      · exact s_out
  · unfold M.model_checkLinkState_l1
    try simp only [Int.toNat_natCast]
    exact s_else (decide_eq_false (by omega)) rfl
noncomputable def S.model_checkLinkState (a0 : TRouter) : Int :=
  bif !a0.fLS.fOn then (bif ((a0.fLS.fAdmin != 0) || (decide ((a0.fLS.fRanges.length : Int) > 0))) || (decide ((a0.fLS.fRedist.length : Int) > 0)) then 1 else 0) else (letS (S.model_within a0.fLS.fAdmin 1 255) (fun r1 => bif !r1 then 1 else (bif decide ((a0.fLS.fRanges.length : Int) > 4) then 7 else (letS (runN (S.model_checkLinkState_l1 a0) (.inl ()) 0 a0.fLS.fRanges.length) (fun y12 => Sum.elim (fun _ => letS (S.model_checkRedist a0 a0.fLS.fRedist 3 0 16777215 2) (fun r15 => r15)) (fun y14 => y14) y12)))))
theorem s_model_checkLinkState (a0 : TRouter) (ha0 : L_TRouter a0) : M.model_checkLinkState a0 = some (S.model_checkLinkState a0) := by
  have hM := maxLen_eq
  unfold M.model_checkLinkState S.model_checkLinkState
  refine s_if (fun hb1 => ?_) (fun hb1 => ?_)
  · refine s_if (fun hb2 => ?_) (fun hb2 => ?_)
    · rfl
    · rfl
  · refine s_bind (s_model_within a0.fLS.fAdmin 1 255) (fun r1 her1 => ?_)
    refine s_if (fun hb3 => ?_) (fun hb3 => ?_)
    · rfl
    · refine s_if (fun hb4 => ?_) (fun hb4 => ?_)
      · rfl
      · refine s_bind (s_model_checkLinkState_l1 a0 ha0 0) (fun y12 hey12 => ?_)
        refine s_elim (fun _ hl => ?_) (fun y14 hly14 => ?_)
        · refine s_bind (s_model_checkRedist a0 a0.fLS.fRedist 3 0 16777215 2 ha0 (L_TLinkState.fRedist (L_TRouter.fLS ha0))) (fun r15 her15 => ?_)
          rfl
        · rfl
noncomputable def S.model_checkDistanceVector (a0 : TRouter) : Int :=
  bif !a0.fDV.fOn then (bif (((a0.fDV.fAdmin != 0) || (!strEq a0.fDV.fIn (⟨#[]⟩ : ByteArray))) || (!strEq a0.fDV.fOut (⟨#[]⟩ : ByteArray))) || (decide ((a0.fDV.fRedist.length : Int) > 0)) then 1 else 0) else (letS (S.model_within a0.fDV.fAdmin 1 255) (fun r1 => bif !r1 then 1 else (letS (bif (!strEq a0.fDV.fIn (⟨#[]⟩ : ByteArray)) then S.model_PrefixList a0 a0.fDV.fIn else default) (fun r2 => letS (bif ((!((!strEq a0.fDV.fIn (⟨#[]⟩ : ByteArray)) && (decide (r2 < 0)))) && (!strEq a0.fDV.fOut (⟨#[]⟩ : ByteArray))) then S.model_PrefixList a0 a0.fDV.fOut else default) (fun r3 => bif ((!strEq a0.fDV.fIn (⟨#[]⟩ : ByteArray)) && (decide (r2 < 0))) || ((!strEq a0.fDV.fOut (⟨#[]⟩ : ByteArray)) && (decide (r3 < 0))) then 5 else (letS (S.model_checkRedist a0 a0.fDV.fRedist 4 1 15 0) (fun r4 => r4)))))))
theorem s_model_checkDistanceVector (a0 : TRouter) (ha0 : L_TRouter a0) : M.model_checkDistanceVector a0 = some (S.model_checkDistanceVector a0) := by
  have hM := maxLen_eq
  unfold M.model_checkDistanceVector S.model_checkDistanceVector
  refine s_if (fun hb1 => ?_) (fun hb1 => ?_)
  · refine s_if (fun hb2 => ?_) (fun hb2 => ?_)
    · rfl
    · rfl
  · refine s_bind (s_model_within a0.fDV.fAdmin 1 255) (fun r1 her1 => ?_)
    refine s_if (fun hb3 => ?_) (fun hb3 => ?_)
    · rfl
    · refine s_bind (s_gc fun hg => (s_model_PrefixList a0 a0.fDV.fIn ha0 (L_TDistanceVector.fIn (L_TRouter.fDV ha0)))) (fun r2 her2 => ?_)
      refine s_bind (s_gc fun hg => (s_model_PrefixList a0 a0.fDV.fOut ha0 (L_TDistanceVector.fOut (L_TRouter.fDV ha0)))) (fun r3 her3 => ?_)
      refine s_if (fun hb4 => ?_) (fun hb4 => ?_)
      · rfl
      · refine s_bind (s_model_checkRedist a0 a0.fDV.fRedist 4 1 15 0 ha0 (L_TDistanceVector.fRedist (L_TRouter.fDV ha0))) (fun r4 her4 => ?_)
        rfl
noncomputable def S.model_checkNeighbors_l2 (a0 : TRouter) (i1 : Nat) (i6 : Nat) : Option (Unit ⊕ Int) :=
  bif ((((a0.fPV.fNeighbors.drop 0).take (i1 - 0)).getD i6 default).fAddr) == ((a0.fPV.fNeighbors.getD i1 default).fAddr) then (some (.inr 4)) else none
theorem s_model_checkNeighbors_l2 (a0 : TRouter) (i1 : Nat) (ha0 : L_TRouter a0) (hi1 : i1 < a0.fPV.fNeighbors.length) (i0 : Nat) : loopM (M.model_checkNeighbors_l2 a0 (i1 : Int)) (i0 : Int) = some (runN (S.model_checkNeighbors_l2 a0 i1) (.inl ()) i0 (i1 - i0)) := by
  have hM := maxLen_eq
  have hni1 : a0.fPV.fNeighbors.length ≤ maxLen := (L_TPathVector.fNeighbors (L_TRouter.fPV ha0)).1
  have hni6 : i1 ≤ maxLen := (by omega)
  refine loop_runN (n := i1) (fun i6 hi6 => ?_) (fun m hm => ?_) i0
  · unfold M.model_checkNeighbors_l2 S.model_checkNeighbors_l2
    try simp only [Int.toNat_natCast]
    refine s_then (dt (by omega)) ?_
    refine s_gd (all_c (dt (by omega)) (all_c (dt (by simp; omega)) all_n)) ?_
    refine s_ifN (fun hb4 => ?_) (fun hb4 => ?_)
    · exact s_out
    · exact s_up (by omega)
  · unfold M.model_checkNeighbors_l2
    try simp only [Int.toNat_natCast]
    exact s_else (decide_eq_false (by omega)) rfl
noncomputable def S.model_checkNeighbors_l1 (a0 : TRouter) (i1 : Nat) : Option (Unit ⊕ Int) :=
  letS (bif (!(((a0.fPV.fNeighbors.getD i1 default).fAddr) == 0)) then S.model_within ((a0.fPV.fNeighbors.getD i1 default).fAS) 1 65535 else default) (fun r3 => bif (((a0.fPV.fNeighbors.getD i1 default).fAddr) == 0) || (!r3) then (some (.inr 1)) else (letS (bif (!strEq ((a0.fPV.fNeighbors.getD i1 default).fIn) (⟨#[]⟩ : ByteArray)) then S.model_RouteMap a0 ((a0.fPV.fNeighbors.getD i1 default).fIn) else default) (fun r4 => letS (bif ((!((!strEq ((a0.fPV.fNeighbors.getD i1 default).fIn) (⟨#[]⟩ : ByteArray)) && (decide (r4 < 0)))) && (!strEq ((a0.fPV.fNeighbors.getD i1 default).fOut) (⟨#[]⟩ : ByteArray))) then S.model_RouteMap a0 ((a0.fPV.fNeighbors.getD i1 default).fOut) else default) (fun r5 => bif ((!strEq ((a0.fPV.fNeighbors.getD i1 default).fIn) (⟨#[]⟩ : ByteArray)) && (decide (r4 < 0))) || ((!strEq ((a0.fPV.fNeighbors.getD i1 default).fOut) (⟨#[]⟩ : ByteArray)) && (decide (r5 < 0))) then (some (.inr 5)) else (letS (runN (S.model_checkNeighbors_l2 a0 i1) (.inl ()) 0 i1) (fun y8 => Sum.elim (fun _ => none) (fun y10 => some (.inr y10)) y8))))))
theorem s_model_checkNeighbors_l1 (a0 : TRouter) (ha0 : L_TRouter a0) (i0 : Nat) : loopM (M.model_checkNeighbors_l1 a0) (i0 : Int) = some (runN (S.model_checkNeighbors_l1 a0) (.inl ()) i0 (a0.fPV.fNeighbors.length - i0)) := by
  have hM := maxLen_eq
  have hni1 : a0.fPV.fNeighbors.length ≤ maxLen := (L_TPathVector.fNeighbors (L_TRouter.fPV ha0)).1
  refine loop_runN (n := a0.fPV.fNeighbors.length) (fun i1 hi1 => ?_) (fun m hm => ?_) i0
  · unfold M.model_checkNeighbors_l1 S.model_checkNeighbors_l1
    try simp only [Int.toNat_natCast]
    refine s_then (dt (by omega)) ?_
    refine s_gd (all_c (dt (by omega)) (all_c (dt (by omega)) all_n)) ?_
    refine s_bindN (s_gc fun hg => (s_model_within ((a0.fPV.fNeighbors.getD i1 default).fAS) 1 65535)) (fun r3 her3 => ?_)
    refine s_ifN (fun hb2 => ?_) (fun hb2 => ?_)
    · exact s_out
    · refine s_bindN (s_gc fun hg => (s_model_RouteMap a0 ((a0.fPV.fNeighbors.getD i1 default).fIn) ha0 (L_TNeighbor.fIn (LL.getD (L_TPathVector.fNeighbors (L_TRouter.fPV ha0)) L_TNeighbor.dflt i1)))) (fun r4 her4 => ?_)
      refine s_bindN (s_gc fun hg => (s_model_RouteMap a0 ((a0.fPV.fNeighbors.getD i1 default).fOut) ha0 (L_TNeighbor.fOut (LL.getD (L_TPathVector.fNeighbors (L_TRouter.fPV ha0)) L_TNeighbor.dflt i1)))) (fun r5 her5 => ?_)
      refine s_ifN (fun hb3 => ?_) (fun hb3 => ?_)
      · exact s_out
      · refine s_gd (all_c (dt (by omega)) (all_c (dt (by omega)) all_n)) ?_
        refine s_bindN (s_model_checkNeighbors_l2 a0 i1 ha0 hi1 0) (fun y8 hey8 => ?_)
        refine s_elimN (fun _ hl => ?_) (fun y10 hly10 => ?_)
        · exact s_up (by omega)
        · exact s_out
  · unfold M.model_checkNeighbors_l1
    try simp only [Int.toNat_natCast]
    exact s_else (decide_eq_false (by omega)) rfl
noncomputable def S.model_checkNeighbors (a0 : TRouter) : Int :=
  bif decide ((a0.fPV.fNeighbors.length : Int) > 8) then 7 else (letS (runN (S.model_checkNeighbors_l1 a0) (.inl ()) 0 a0.fPV.fNeighbors.length) (fun y11 => Sum.elim (fun _ => 0) (fun y13 => y13) y11))
theorem s_model_checkNeighbors (a0 : TRouter) (ha0 : L_TRouter a0) : M.model_checkNeighbors a0 = some (S.model_checkNeighbors a0) := by
  have hM := maxLen_eq
  unfold M.model_checkNeighbors S.model_checkNeighbors
  refine s_if (fun hb1 => ?_) (fun hb1 => ?_)
  · rfl
  · refine s_bind (s_model_checkNeighbors_l1 a0 ha0 0) (fun y11 hey11 => ?_)
    refine s_elim (fun _ hl => ?_) (fun y13 hly13 => ?_)
    · rfl
    · rfl
noncomputable def S.slices_Index_api_Prefix_api_Prefix_l1 (a0 : List TPrefix) (a1 : TPrefix) (i1 : Nat) : Option (Unit ⊕ Int) :=
  bif ((a1.fAddr == ((a0.getD i1 default).fAddr)) && ((a1.fLen == ((a0.getD i1 default).fLen)) && true)) then (some (.inr (i1 : Int))) else none
theorem s_slices_Index_api_Prefix_api_Prefix_l1 (a0 : List TPrefix) (a1 : TPrefix) (ha0 : a0.length ≤ maxLen) (i0 : Nat) : loopM (M.slices_Index_api_Prefix_api_Prefix_l1 a0 a1) (i0 : Int) = some (runN (S.slices_Index_api_Prefix_api_Prefix_l1 a0 a1) (.inl ()) i0 (a0.length - i0)) := by
  have hM := maxLen_eq
  have hni1 : a0.length ≤ maxLen := ha0
  refine loop_runN (n := a0.length) (fun i1 hi1 => ?_) (fun m hm => ?_) i0
  · unfold M.slices_Index_api_Prefix_api_Prefix_l1 S.slices_Index_api_Prefix_api_Prefix_l1
    try simp only [Int.toNat_natCast]
    refine s_then (dt (by omega)) ?_
    refine s_gd (all_c (dt (by omega)) (all_c (dt (by omega)) all_n)) ?_
    refine s_ifN (fun hb1 => ?_) (fun hb1 => ?_)
    · exact s_out
    · exact s_up (by omega)
  · unfold M.slices_Index_api_Prefix_api_Prefix_l1
    try simp only [Int.toNat_natCast]
    exact s_else (decide_eq_false (by omega)) rfl
noncomputable def S.slices_Index_api_Prefix_api_Prefix (a0 : List TPrefix) (a1 : TPrefix) : Int :=
  letS (runN (S.slices_Index_api_Prefix_api_Prefix_l1 a0 a1) (.inl ()) 0 a0.length) (fun y3 => Sum.elim (fun _ => -1) (fun y5 => y5) y3)
theorem s_slices_Index_api_Prefix_api_Prefix (a0 : List TPrefix) (a1 : TPrefix) (ha0 : a0.length ≤ maxLen) : M.slices_Index_api_Prefix_api_Prefix a0 a1 = some (S.slices_Index_api_Prefix_api_Prefix a0 a1) := by
  have hM := maxLen_eq
  unfold M.slices_Index_api_Prefix_api_Prefix S.slices_Index_api_Prefix_api_Prefix
  refine s_bind (s_slices_Index_api_Prefix_api_Prefix_l1 a0 a1 ha0 0) (fun y3 hey3 => ?_)
  refine s_elim (fun _ hl => ?_) (fun y5 hly5 => ?_)
  · rfl
  · rfl
noncomputable def S.slices_Contains_api_Prefix_api_Prefix (a0 : List TPrefix) (a1 : TPrefix) : Bool :=
  letS (S.slices_Index_api_Prefix_api_Prefix a0 a1) (fun r1 => decide (r1 ≥ 0))
theorem s_slices_Contains_api_Prefix_api_Prefix (a0 : List TPrefix) (a1 : TPrefix) (ha0 : a0.length ≤ maxLen) : M.slices_Contains_api_Prefix_api_Prefix a0 a1 = some (S.slices_Contains_api_Prefix_api_Prefix a0 a1) := by
  have hM := maxLen_eq
  unfold M.slices_Contains_api_Prefix_api_Prefix S.slices_Contains_api_Prefix_api_Prefix
  refine s_bind (s_slices_Index_api_Prefix_api_Prefix a0 a1 ha0) (fun r1 her1 => ?_)
  rfl
noncomputable def S.model_checkOrigins_l1 (a0 : TPathVector) (i1 : Nat) : Option (Unit ⊕ Int) :=
  letS (S.addr_Valid (a0.fNetworks.getD i1 default)) (fun r3 => bif !r3 then (some (.inr 1)) else (letS (S.slices_Contains_api_Prefix_api_Prefix ((a0.fNetworks.drop 0).take (i1 - 0)) (a0.fNetworks.getD i1 default)) (fun r4 => bif r4 then (some (.inr 4)) else none)))
theorem s_model_checkOrigins_l1 (a0 : TPathVector) (ha0 : L_TPathVector a0) (i0 : Nat) : loopM (M.model_checkOrigins_l1 a0) (i0 : Int) = some (runN (S.model_checkOrigins_l1 a0) (.inl ()) i0 (a0.fNetworks.length - i0)) := by
  have hM := maxLen_eq
  have hni1 : a0.fNetworks.length ≤ maxLen := (L_TPathVector.fNetworks ha0)
  refine loop_runN (n := a0.fNetworks.length) (fun i1 hi1 => ?_) (fun m hm => ?_) i0
  · unfold M.model_checkOrigins_l1 S.model_checkOrigins_l1
    try simp only [Int.toNat_natCast]
    refine s_then (dt (by omega)) ?_
    refine s_gd (all_c (dt (by omega)) (all_c (dt (by omega)) all_n)) ?_
    refine s_bindN (s_addr_Valid (a0.fNetworks.getD i1 default)) (fun r3 her3 => ?_)
    refine s_ifN (fun hb2 => ?_) (fun hb2 => ?_)
    · exact s_out
    · refine s_bindN (s_slices_Contains_api_Prefix_api_Prefix ((a0.fNetworks.drop 0).take (i1 - 0)) (a0.fNetworks.getD i1 default) (len_take (len_drop (L_TPathVector.fNetworks ha0)))) (fun r4 her4 => ?_)
      refine s_gd (all_c (dt (by omega)) (all_c (dt (by omega)) all_n)) ?_
      refine s_ifN (fun hb3 => ?_) (fun hb3 => ?_)
      · exact s_out
      · exact s_up (by omega)
  · unfold M.model_checkOrigins_l1
    try simp only [Int.toNat_natCast]
    exact s_else (decide_eq_false (by omega)) rfl
noncomputable def S.model_checkOrigins_l3 (a0 : TPathVector) (i8 : Nat) (i11 : Nat) : Option (Unit ⊕ Int) :=
  bif (((((((a0.fAggregates.drop 0).take (i8 - 0)).getD i11 default).fPrefix).fAddr) == (((a0.fAggregates.getD i8 default).fPrefix).fAddr)) && (((((((a0.fAggregates.drop 0).take (i8 - 0)).getD i11 default).fPrefix).fLen) == (((a0.fAggregates.getD i8 default).fPrefix).fLen)) && true)) then (some (.inr 4)) else none
theorem s_model_checkOrigins_l3 (a0 : TPathVector) (i8 : Nat) (ha0 : L_TPathVector a0) (hi8 : i8 < a0.fAggregates.length) (i0 : Nat) : loopM (M.model_checkOrigins_l3 a0 (i8 : Int)) (i0 : Int) = some (runN (S.model_checkOrigins_l3 a0 i8) (.inl ()) i0 (i8 - i0)) := by
  have hM := maxLen_eq
  have hni8 : a0.fAggregates.length ≤ maxLen := (L_TPathVector.fAggregates ha0)
  have hni11 : i8 ≤ maxLen := (by omega)
  refine loop_runN (n := i8) (fun i11 hi11 => ?_) (fun m hm => ?_) i0
  · unfold M.model_checkOrigins_l3 S.model_checkOrigins_l3
    try simp only [Int.toNat_natCast]
    refine s_then (dt (by omega)) ?_
    refine s_gd (all_c (dt (by omega)) (all_c (dt (by simp; omega)) all_n)) ?_
    refine s_ifN (fun hb6 => ?_) (fun hb6 => ?_)
    · exact s_out
    · exact s_up (by omega)
  · unfold M.model_checkOrigins_l3
    try simp only [Int.toNat_natCast]
    exact s_else (decide_eq_false (by omega)) rfl
noncomputable def S.model_checkOrigins_l2 (a0 : TPathVector) (i8 : Nat) : Option (Unit ⊕ Int) :=
  letS (S.addr_Valid ((a0.fAggregates.getD i8 default).fPrefix)) (fun r10 => bif !r10 then (some (.inr 1)) else (letS (runN (S.model_checkOrigins_l3 a0 i8) (.inl ()) 0 i8) (fun y13 => Sum.elim (fun _ => none) (fun y15 => some (.inr y15)) y13)))
theorem s_model_checkOrigins_l2 (a0 : TPathVector) (ha0 : L_TPathVector a0) (i0 : Nat) : loopM (M.model_checkOrigins_l2 a0) (i0 : Int) = some (runN (S.model_checkOrigins_l2 a0) (.inl ()) i0 (a0.fAggregates.length - i0)) := by
  have hM := maxLen_eq
  have hni8 : a0.fAggregates.length ≤ maxLen := (L_TPathVector.fAggregates ha0)
  refine loop_runN (n := a0.fAggregates.length) (fun i8 hi8 => ?_) (fun m hm => ?_) i0
  · unfold M.model_checkOrigins_l2 S.model_checkOrigins_l2
    try simp only [Int.toNat_natCast]
    refine s_then (dt (by omega)) ?_
    refine s_gd (all_c (dt (by omega)) (all_c (dt (by omega)) all_n)) ?_
    refine s_bindN (s_addr_Valid ((a0.fAggregates.getD i8 default).fPrefix)) (fun r10 her10 => ?_)
    refine s_ifN (fun hb5 => ?_) (fun hb5 => ?_)
    · exact s_out
    · refine s_gd (all_c (dt (by omega)) (all_c (dt (by omega)) all_n)) ?_
      refine s_bindN (s_model_checkOrigins_l3 a0 i8 ha0 hi8 0) (fun y13 hey13 => ?_)
      refine s_elimN (fun _ hl => ?_) (fun y15 hly15 => ?_)
      · exact s_up (by omega)
      · exact s_out
  · unfold M.model_checkOrigins_l2
    try simp only [Int.toNat_natCast]
    exact s_else (decide_eq_false (by omega)) rfl
noncomputable def S.model_checkOrigins_l5 (a0 : TPathVector) (i19 : Nat) (i23 : Nat) : Option (Unit ⊕ Int) :=
  bif (((((((a0.fConditions.drop 0).take (i19 - 0)).getD i23 default).fPrefix).fAddr) == (((a0.fConditions.getD i19 default).fPrefix).fAddr)) && (((((((a0.fConditions.drop 0).take (i19 - 0)).getD i23 default).fPrefix).fLen) == (((a0.fConditions.getD i19 default).fPrefix).fLen)) && true)) then (some (.inr 4)) else none
theorem s_model_checkOrigins_l5 (a0 : TPathVector) (i19 : Nat) (ha0 : L_TPathVector a0) (hi19 : i19 < a0.fConditions.length) (i0 : Nat) : loopM (M.model_checkOrigins_l5 a0 (i19 : Int)) (i0 : Int) = some (runN (S.model_checkOrigins_l5 a0 i19) (.inl ()) i0 (i19 - i0)) := by
  have hM := maxLen_eq
  have hni19 : a0.fConditions.length ≤ maxLen := (L_TPathVector.fConditions ha0)
  have hni23 : i19 ≤ maxLen := (by omega)
  refine loop_runN (n := i19) (fun i23 hi23 => ?_) (fun m hm => ?_) i0
  · unfold M.model_checkOrigins_l5 S.model_checkOrigins_l5
    try simp only [Int.toNat_natCast]
    refine s_then (dt (by omega)) ?_
    refine s_gd (all_c (dt (by omega)) (all_c (dt (by simp; omega)) all_n)) ?_
    refine s_ifN (fun hb10 => ?_) (fun hb10 => ?_)
    · exact s_out
    · exact s_up (by omega)
  · unfold M.model_checkOrigins_l5
    try simp only [Int.toNat_natCast]
    exact s_else (decide_eq_false (by omega)) rfl
noncomputable def S.model_checkOrigins_l4 (a0 : TPathVector) (i19 : Nat) : Option (Unit ⊕ Int) :=
  letS (S.addr_Valid ((a0.fConditions.getD i19 default).fPrefix)) (fun r21 => letS (bif (!(!r21)) then S.addr_Valid ((a0.fConditions.getD i19 default).fIf) else default) (fun r22 => bif (!r21) || (!r22) then (some (.inr 1)) else (bif (((((a0.fConditions.getD i19 default).fPrefix).fAddr) == (((a0.fConditions.getD i19 default).fIf).fAddr)) && (((((a0.fConditions.getD i19 default).fPrefix).fLen) == (((a0.fConditions.getD i19 default).fIf).fLen)) && true)) then (some (.inr 6)) else (letS (runN (S.model_checkOrigins_l5 a0 i19) (.inl ()) 0 i19) (fun y25 => Sum.elim (fun _ => none) (fun y27 => some (.inr y27)) y25)))))
theorem s_model_checkOrigins_l4 (a0 : TPathVector) (ha0 : L_TPathVector a0) (i0 : Nat) : loopM (M.model_checkOrigins_l4 a0) (i0 : Int) = some (runN (S.model_checkOrigins_l4 a0) (.inl ()) i0 (a0.fConditions.length - i0)) := by
  have hM := maxLen_eq
  have hni19 : a0.fConditions.length ≤ maxLen := (L_TPathVector.fConditions ha0)
  refine loop_runN (n := a0.fConditions.length) (fun i19 hi19 => ?_) (fun m hm => ?_) i0
  · unfold M.model_checkOrigins_l4 S.model_checkOrigins_l4
    try simp only [Int.toNat_natCast]
    refine s_then (dt (by omega)) ?_
    refine s_gd (all_c (dt (by omega)) (all_c (dt (by omega)) all_n)) ?_
    refine s_bindN (s_addr_Valid ((a0.fConditions.getD i19 default).fPrefix)) (fun r21 her21 => ?_)
    refine s_bindN (s_gc fun hg => (s_addr_Valid ((a0.fConditions.getD i19 default).fIf))) (fun r22 her22 => ?_)
    refine s_ifN (fun hb8 => ?_) (fun hb8 => ?_)
    · exact s_out
    · refine s_ifN (fun hb9 => ?_) (fun hb9 => ?_)
      · exact s_out
      · refine s_gd (all_c (dt (by omega)) (all_c (dt (by omega)) all_n)) ?_
        refine s_bindN (s_model_checkOrigins_l5 a0 i19 ha0 hi19 0) (fun y25 hey25 => ?_)
        refine s_elimN (fun _ hl => ?_) (fun y27 hly27 => ?_)
        · exact s_up (by omega)
        · exact s_out
  · unfold M.model_checkOrigins_l4
    try simp only [Int.toNat_natCast]
    exact s_else (decide_eq_false (by omega)) rfl
noncomputable def S.model_checkOrigins (a0 : TPathVector) : Int :=
  bif decide ((a0.fNetworks.length : Int) > 8) then 7 else (letS (runN (S.model_checkOrigins_l1 a0) (.inl ()) 0 a0.fNetworks.length) (fun y5 => Sum.elim (fun _ => bif decide ((a0.fAggregates.length : Int) > 8) then 7 else (letS (runN (S.model_checkOrigins_l2 a0) (.inl ()) 0 a0.fAggregates.length) (fun y16 => Sum.elim (fun _ => bif decide ((a0.fConditions.length : Int) > 8) then 7 else (letS (runN (S.model_checkOrigins_l4 a0) (.inl ()) 0 a0.fConditions.length) (fun y28 => Sum.elim (fun _ => 0) (fun y30 => y30) y28))) (fun y18 => y18) y16))) (fun y7 => y7) y5))
theorem s_model_checkOrigins (a0 : TPathVector) (ha0 : L_TPathVector a0) : M.model_checkOrigins a0 = some (S.model_checkOrigins a0) := by
  have hM := maxLen_eq
  unfold M.model_checkOrigins S.model_checkOrigins
  refine s_if (fun hb1 => ?_) (fun hb1 => ?_)
  · rfl
  · refine s_bind (s_model_checkOrigins_l1 a0 ha0 0) (fun y5 hey5 => ?_)
    refine s_elim (fun _ hl => ?_) (fun y7 hly7 => ?_)
    · refine s_if (fun hb4 => ?_) (fun hb4 => ?_)
      · rfl
      · refine s_bind (s_model_checkOrigins_l2 a0 ha0 0) (fun y16 hey16 => ?_)
        refine s_elim (fun _ hl => ?_) (fun y18 hly18 => ?_)
        · refine s_if (fun hb7 => ?_) (fun hb7 => ?_)
          · rfl
          · refine s_bind (s_model_checkOrigins_l4 a0 ha0 0) (fun y28 hey28 => ?_)
            refine s_elim (fun _ hl => ?_) (fun y30 hly30 => ?_)
            · rfl
            · rfl
        · rfl
    · rfl
noncomputable def S.model_checkPathVector (a0 : TRouter) : Int :=
  bif !a0.fPV.fOn then (bif ((((((a0.fPV.fExternal != 0) || (a0.fPV.fInternal != 0)) || (decide ((a0.fPV.fNeighbors.length : Int) > 0))) || (decide ((a0.fPV.fNetworks.length : Int) > 0))) || (decide ((a0.fPV.fAggregates.length : Int) > 0))) || (decide ((a0.fPV.fConditions.length : Int) > 0))) || (decide ((a0.fPV.fRedist.length : Int) > 0)) then 1 else 0) else (letS (bif (!(a0.fAS == 0)) then S.model_within a0.fPV.fExternal 1 255 else default) (fun r1 => letS (bif (!((a0.fAS == 0) || (!r1))) then S.model_within a0.fPV.fInternal 1 255 else default) (fun r2 => bif ((a0.fAS == 0) || (!r1)) || (!r2) then 1 else (letS (S.model_checkNeighbors a0) (fun r3 => bif r3 != 0 then r3 else (letS (S.model_checkOrigins a0.fPV) (fun r4 => bif r4 != 0 then r4 else (letS (S.model_checkRedist a0 a0.fPV.fRedist 5 0 16777215 0) (fun r5 => r5)))))))))
theorem s_model_checkPathVector (a0 : TRouter) (ha0 : L_TRouter a0) : M.model_checkPathVector a0 = some (S.model_checkPathVector a0) := by
  have hM := maxLen_eq
  unfold M.model_checkPathVector S.model_checkPathVector
  refine s_if (fun hb1 => ?_) (fun hb1 => ?_)
  · refine s_if (fun hb2 => ?_) (fun hb2 => ?_)
    · rfl
    · rfl
  · refine s_bind (s_gc fun hg => (s_model_within a0.fPV.fExternal 1 255)) (fun r1 her1 => ?_)
    refine s_bind (s_gc fun hg => (s_model_within a0.fPV.fInternal 1 255)) (fun r2 her2 => ?_)
    refine s_if (fun hb3 => ?_) (fun hb3 => ?_)
    · rfl
    · refine s_bind (s_model_checkNeighbors a0 ha0) (fun r3 her3 => ?_)
      refine s_if (fun hb4 => ?_) (fun hb4 => ?_)
      · rfl
      · refine s_bind (s_model_checkOrigins a0.fPV (L_TRouter.fPV ha0)) (fun r4 her4 => ?_)
        refine s_if (fun hb5 => ?_) (fun hb5 => ?_)
        · rfl
        · refine s_bind (s_model_checkRedist a0 a0.fPV.fRedist 5 0 16777215 0 ha0 (L_TPathVector.fRedist (L_TRouter.fPV ha0))) (fun r5 her5 => ?_)
          rfl
noncomputable def S.model_CheckRouter (a0 : TRouter) : Int :=
  letS (S.scan_Name a0.fName) (fun r1 => bif !r1 then 3 else (letS (S.model_within a0.fAS 0 65535) (fun r2 => bif !r2 then 1 else (letS (S.model_checkInterfaces a0) (fun r3 => bif r3 != 0 then r3 else (letS (S.model_checkPrefixLists a0) (fun r4 => bif r4 != 0 then r4 else (letS (S.model_checkRouteMaps a0) (fun r5 => bif r5 != 0 then r5 else (letS (S.model_checkACLs a0) (fun r6 => bif r6 != 0 then r6 else (letS (S.model_checkNAT a0) (fun r7 => bif r7 != 0 then r7 else (letS (S.model_checkFilters a0) (fun r8 => bif r8 != 0 then r8 else (letS (S.model_checkStatics a0) (fun r9 => bif r9 != 0 then r9 else (letS (S.model_checkLinkState a0) (fun r10 => bif r10 != 0 then r10 else (letS (S.model_checkDistanceVector a0) (fun r11 => bif r11 != 0 then r11 else (letS (S.model_checkPathVector a0) (fun r12 => bif r12 != 0 then r12 else 0)))))))))))))))))))))))
theorem s_model_CheckRouter (a0 : TRouter) (ha0 : L_TRouter a0) : M.model_CheckRouter a0 = some (S.model_CheckRouter a0) := by
  have hM := maxLen_eq
  unfold M.model_CheckRouter S.model_CheckRouter
  refine s_bind (s_scan_Name a0.fName (L_TRouter.fName ha0)) (fun r1 her1 => ?_)
  refine s_if (fun hb1 => ?_) (fun hb1 => ?_)
  · rfl
  · refine s_bind (s_model_within a0.fAS 0 65535) (fun r2 her2 => ?_)
    refine s_if (fun hb2 => ?_) (fun hb2 => ?_)
    · rfl
    · refine s_gd (all_c (dt (by first | omega | (simp; omega) | (simp at *; omega))) (all_c (dt (by first | omega | (simp; omega) | (simp at *; omega))) all_n)) ?_
      refine s_bind (s_model_checkInterfaces a0 ha0) (fun r3 her3 => ?_)
      refine s_if (fun hb3 => ?_) (fun hb3 => ?_)
      · rfl
      · refine s_gd (all_c (dt (by first | omega | (simp; omega) | (simp at *; omega))) (all_c (dt (by first | omega | (simp; omega) | (simp at *; omega))) all_n)) ?_
        refine s_bind (s_model_checkPrefixLists a0 ha0) (fun r4 her4 => ?_)
        refine s_if (fun hb4 => ?_) (fun hb4 => ?_)
        · rfl
        · refine s_gd (all_c (dt (by first | omega | (simp; omega) | (simp at *; omega))) (all_c (dt (by first | omega | (simp; omega) | (simp at *; omega))) all_n)) ?_
          refine s_bind (s_model_checkRouteMaps a0 ha0) (fun r5 her5 => ?_)
          refine s_if (fun hb5 => ?_) (fun hb5 => ?_)
          · rfl
          · refine s_gd (all_c (dt (by first | omega | (simp; omega) | (simp at *; omega))) (all_c (dt (by first | omega | (simp; omega) | (simp at *; omega))) all_n)) ?_
            refine s_bind (s_model_checkACLs a0 ha0) (fun r6 her6 => ?_)
            refine s_if (fun hb6 => ?_) (fun hb6 => ?_)
            · rfl
            · refine s_gd (all_c (dt (by first | omega | (simp; omega) | (simp at *; omega))) (all_c (dt (by first | omega | (simp; omega) | (simp at *; omega))) all_n)) ?_
              refine s_bind (s_model_checkNAT a0 ha0) (fun r7 her7 => ?_)
              refine s_if (fun hb7 => ?_) (fun hb7 => ?_)
              · rfl
              · refine s_gd (all_c (dt (by first | omega | (simp; omega) | (simp at *; omega))) (all_c (dt (by first | omega | (simp; omega) | (simp at *; omega))) all_n)) ?_
                refine s_bind (s_model_checkFilters a0 ha0) (fun r8 her8 => ?_)
                refine s_if (fun hb8 => ?_) (fun hb8 => ?_)
                · rfl
                · refine s_gd (all_c (dt (by first | omega | (simp; omega) | (simp at *; omega))) (all_c (dt (by first | omega | (simp; omega) | (simp at *; omega))) all_n)) ?_
                  refine s_bind (s_model_checkStatics a0 ha0) (fun r9 her9 => ?_)
                  refine s_if (fun hb9 => ?_) (fun hb9 => ?_)
                  · rfl
                  · refine s_gd (all_c (dt (by first | omega | (simp; omega) | (simp at *; omega))) (all_c (dt (by first | omega | (simp; omega) | (simp at *; omega))) all_n)) ?_
                    refine s_bind (s_model_checkLinkState a0 ha0) (fun r10 her10 => ?_)
                    refine s_if (fun hb10 => ?_) (fun hb10 => ?_)
                    · rfl
                    · refine s_gd (all_c (dt (by first | omega | (simp; omega) | (simp at *; omega))) (all_c (dt (by first | omega | (simp; omega) | (simp at *; omega))) all_n)) ?_
                      refine s_bind (s_model_checkDistanceVector a0 ha0) (fun r11 her11 => ?_)
                      refine s_if (fun hb11 => ?_) (fun hb11 => ?_)
                      · rfl
                      · refine s_gd (all_c (dt (by first | omega | (simp; omega) | (simp at *; omega))) (all_c (dt (by first | omega | (simp; omega) | (simp at *; omega))) all_n)) ?_
                        refine s_bind (s_model_checkPathVector a0 ha0) (fun r12 her12 => ?_)
                        refine s_if (fun hb12 => ?_) (fun hb12 => ?_)
                        · rfl
                        · rfl
noncomputable def S.law5_sample  : TRouter :=
  (⟨(⟨#[114, 49]⟩ : ByteArray), 65001, ([(⟨(⟨#[101, 48]⟩ : ByteArray), 167772161, 24, 0, false, true, 0, 10, false, (⟨#[97]⟩ : ByteArray), (⟨#[]⟩ : ByteArray), 0⟩ : TInterface), (⟨(⟨#[101, 49]⟩ : ByteArray), 167772417, 24, 0, false, false, 0, 0, true, (⟨#[]⟩ : ByteArray), (⟨#[]⟩ : ByteArray), 0⟩ : TInterface)] : List TInterface), ([(⟨(⟨#[112]⟩ : ByteArray), ([(⟨true, (⟨167772160, 8⟩ : TPrefix), 8, 32⟩ : TPrefixRule)] : List TPrefixRule)⟩ : TPrefixList)] : List TPrefixList), ([(⟨(⟨#[109]⟩ : ByteArray), ([(⟨true, (⟨#[112]⟩ : ByteArray), (-1), 5, (-1), (-1), 0⟩ : TClause)] : List TClause)⟩ : TRouteMap)] : List TRouteMap), ([(⟨(⟨#[97]⟩ : ByteArray), ([(⟨true, 6, (⟨0, 4294967295⟩ : TWildcard), (⟨0, 4294967295⟩ : TWildcard), (⟨0, 65535⟩ : TPortRange), (⟨80, 80⟩ : TPortRange)⟩ : TRule)] : List TRule)⟩ : TACL)] : List TACL), ([(⟨1, 167772165, 3221225989, 0, 0, 0, (⟨#[]⟩ : ByteArray), 0, 0⟩ : TTranslation)] : List TTranslation), ([(⟨(⟨3232235520, 16⟩ : TPrefix), 167772418, (⟨#[]⟩ : ByteArray), false, 1, 0⟩ : TStaticRoute)] : List TStaticRoute), (⟨true, 110, ([] : List TAreaRange), ([(⟨2, 20, 0, (⟨#[109]⟩ : ByteArray), 2⟩ : TRedist)] : List TRedist)⟩ : TLinkState), (⟨true, 120, (⟨#[]⟩ : ByteArray), (⟨#[112]⟩ : ByteArray), ([] : List TRedist)⟩ : TDistanceVector), (⟨true, 20, 200, ([(⟨167772418, 65002, (⟨#[109]⟩ : ByteArray), (⟨#[]⟩ : ByteArray)⟩ : TNeighbor)] : List TNeighbor), ([(⟨167772160, 24⟩ : TPrefix)] : List TPrefix), ([] : List TAggregate), ([] : List TCondition), ([] : List TRedist)⟩ : TPathVector)⟩ : TRouter)
theorem s_law5_sample   : M.law5_sample  = some (S.law5_sample ) := by
  have hM := maxLen_eq
  unfold M.law5_sample S.law5_sample
  rfl
theorem Lres_law5_sample : L_TRouter S.law5_sample := by unfold S.law5_sample; exact ⟨(Nat.le_of_ble_eq_true rfl), ⟨by simp [maxLen_eq], by simp only [List.mem_cons, List.not_mem_nil, or_false, forall_eq_or_imp, forall_eq]; exact ⟨⟨(Nat.le_of_ble_eq_true rfl), (Nat.le_of_ble_eq_true rfl), (Nat.le_of_ble_eq_true rfl)⟩, ⟨(Nat.le_of_ble_eq_true rfl), (Nat.le_of_ble_eq_true rfl), (Nat.le_of_ble_eq_true rfl)⟩⟩⟩, ⟨by simp [maxLen_eq], by simp only [List.mem_cons, List.not_mem_nil, or_false, forall_eq_or_imp, forall_eq]; exact ⟨(Nat.le_of_ble_eq_true rfl), (by simp [maxLen_eq])⟩⟩, ⟨by simp [maxLen_eq], by simp only [List.mem_cons, List.not_mem_nil, or_false, forall_eq_or_imp, forall_eq]; exact ⟨(Nat.le_of_ble_eq_true rfl), ⟨by simp [maxLen_eq], by simp only [List.mem_cons, List.not_mem_nil, or_false, forall_eq_or_imp, forall_eq]; exact (Nat.le_of_ble_eq_true rfl)⟩⟩⟩, ⟨by simp [maxLen_eq], by simp only [List.mem_cons, List.not_mem_nil, or_false, forall_eq_or_imp, forall_eq]; exact ⟨(Nat.le_of_ble_eq_true rfl), (by simp [maxLen_eq])⟩⟩, ⟨by simp [maxLen_eq], by simp only [List.mem_cons, List.not_mem_nil, or_false, forall_eq_or_imp, forall_eq]; exact (Nat.le_of_ble_eq_true rfl)⟩, ⟨by simp [maxLen_eq], by simp only [List.mem_cons, List.not_mem_nil, or_false, forall_eq_or_imp, forall_eq]; exact (Nat.le_of_ble_eq_true rfl)⟩, ⟨(by simp [maxLen_eq]), ⟨by simp [maxLen_eq], by simp only [List.mem_cons, List.not_mem_nil, or_false, forall_eq_or_imp, forall_eq]; exact (Nat.le_of_ble_eq_true rfl)⟩⟩, ⟨(Nat.le_of_ble_eq_true rfl), (Nat.le_of_ble_eq_true rfl), ⟨Nat.zero_le _, fun _ h => absurd h List.not_mem_nil⟩⟩, ⟨⟨by simp [maxLen_eq], by simp only [List.mem_cons, List.not_mem_nil, or_false, forall_eq_or_imp, forall_eq]; exact ⟨(Nat.le_of_ble_eq_true rfl), (Nat.le_of_ble_eq_true rfl)⟩⟩, (by simp [maxLen_eq]), (by simp [maxLen_eq]), (by simp [maxLen_eq]), ⟨Nat.zero_le _, fun _ h => absurd h List.not_mem_nil⟩⟩⟩
noncomputable def S.slices_Equal_api_Interface_api_Interface_l1 (a0 : List TInterface) (a1 : List TInterface) (i1 : Nat) : Option (Unit ⊕ Bool) :=
  bif !(strEq ((a0.getD i1 default).fName) ((a1.getD i1 default).fName) && ((((a0.getD i1 default).fAddr) == ((a1.getD i1 default).fAddr)) && ((((a0.getD i1 default).fLen) == ((a1.getD i1 default).fLen)) && ((((a0.getD i1 default).fVLAN) == ((a1.getD i1 default).fVLAN)) && ((((a0.getD i1 default).fDown) == ((a1.getD i1 default).fDown)) && ((((a0.getD i1 default).fLS) == ((a1.getD i1 default).fLS)) && ((((a0.getD i1 default).fArea) == ((a1.getD i1 default).fArea)) && ((((a0.getD i1 default).fCost) == ((a1.getD i1 default).fCost)) && ((((a0.getD i1 default).fDV) == ((a1.getD i1 default).fDV)) && (strEq ((a0.getD i1 default).fIn) ((a1.getD i1 default).fIn) && (strEq ((a0.getD i1 default).fOut) ((a1.getD i1 default).fOut) && ((((a0.getD i1 default).fSide) == ((a1.getD i1 default).fSide)) && true)))))))))))) then (some (.inr false)) else none
theorem s_slices_Equal_api_Interface_api_Interface_l1 (a0 : List TInterface) (a1 : List TInterface) (ha0 : LL L_TInterface a0) (ha1 : LL L_TInterface a1) (hlen : a0.length = a1.length) (i0 : Nat) : loopM (M.slices_Equal_api_Interface_api_Interface_l1 a0 a1) (i0 : Int) = some (runN (S.slices_Equal_api_Interface_api_Interface_l1 a0 a1) (.inl ()) i0 (a0.length - i0)) := by
  have hM := maxLen_eq
  have hni1 : a0.length ≤ maxLen := ha0.1
  refine loop_runN (n := a0.length) (fun i1 hi1 => ?_) (fun m hm => ?_) i0
  · unfold M.slices_Equal_api_Interface_api_Interface_l1 S.slices_Equal_api_Interface_api_Interface_l1
    try simp only [Int.toNat_natCast]
    refine s_then (dt (by omega)) ?_
    refine s_gd (all_c (dt (by omega)) (all_c (dt (by omega)) (all_c (dt (by omega)) (all_c (dt (by omega)) all_n)))) ?_
    refine s_ifN (fun hb2 => ?_) (fun hb2 => ?_)
    · exact s_out
    · exact s_up (by omega)
  · unfold M.slices_Equal_api_Interface_api_Interface_l1
    try simp only [Int.toNat_natCast]
    exact s_else (decide_eq_false (by omega)) rfl
noncomputable def S.slices_Equal_api_Interface_api_Interface (a0 : List TInterface) (a1 : List TInterface) : Bool :=
  bif (a0.length : Int) != (a1.length : Int) then false else (letS (runN (S.slices_Equal_api_Interface_api_Interface_l1 a0 a1) (.inl ()) 0 a0.length) (fun y3 => Sum.elim (fun _ => true) (fun y5 => y5) y3))
theorem s_slices_Equal_api_Interface_api_Interface (a0 : List TInterface) (a1 : List TInterface) (ha0 : LL L_TInterface a0) (ha1 : LL L_TInterface a1) : M.slices_Equal_api_Interface_api_Interface a0 a1 = some (S.slices_Equal_api_Interface_api_Interface a0 a1) := by
  have hM := maxLen_eq
  unfold M.slices_Equal_api_Interface_api_Interface S.slices_Equal_api_Interface_api_Interface
  refine s_if (fun hb1 => ?_) (fun hb1 => ?_)
  · rfl
  · refine s_bind (s_slices_Equal_api_Interface_api_Interface_l1 a0 a1 ha0 ha1 (by simp at *; omega) 0) (fun y3 hey3 => ?_)
    refine s_elim (fun _ hl => ?_) (fun y5 hly5 => ?_)
    · rfl
    · rfl
noncomputable def S.slices_Equal_api_PrefixRule_api_PrefixRule_l1 (a0 : List TPrefixRule) (a1 : List TPrefixRule) (i1 : Nat) : Option (Unit ⊕ Bool) :=
  bif !((((a0.getD i1 default).fPermit) == ((a1.getD i1 default).fPermit)) && ((((((a0.getD i1 default).fPrefix).fAddr) == (((a1.getD i1 default).fPrefix).fAddr)) && (((((a0.getD i1 default).fPrefix).fLen) == (((a1.getD i1 default).fPrefix).fLen)) && true)) && ((((a0.getD i1 default).fMin) == ((a1.getD i1 default).fMin)) && ((((a0.getD i1 default).fMax) == ((a1.getD i1 default).fMax)) && true)))) then (some (.inr false)) else none
theorem s_slices_Equal_api_PrefixRule_api_PrefixRule_l1 (a0 : List TPrefixRule) (a1 : List TPrefixRule) (ha0 : a0.length ≤ maxLen) (ha1 : a1.length ≤ maxLen) (hlen : a0.length = a1.length) (i0 : Nat) : loopM (M.slices_Equal_api_PrefixRule_api_PrefixRule_l1 a0 a1) (i0 : Int) = some (runN (S.slices_Equal_api_PrefixRule_api_PrefixRule_l1 a0 a1) (.inl ()) i0 (a0.length - i0)) := by
  have hM := maxLen_eq
  have hni1 : a0.length ≤ maxLen := ha0
  refine loop_runN (n := a0.length) (fun i1 hi1 => ?_) (fun m hm => ?_) i0
  · unfold M.slices_Equal_api_PrefixRule_api_PrefixRule_l1 S.slices_Equal_api_PrefixRule_api_PrefixRule_l1
    try simp only [Int.toNat_natCast]
    refine s_then (dt (by omega)) ?_
    refine s_gd (all_c (dt (by omega)) (all_c (dt (by omega)) (all_c (dt (by omega)) (all_c (dt (by omega)) all_n)))) ?_
    refine s_ifN (fun hb2 => ?_) (fun hb2 => ?_)
    · exact s_out
    · exact s_up (by omega)
  · unfold M.slices_Equal_api_PrefixRule_api_PrefixRule_l1
    try simp only [Int.toNat_natCast]
    exact s_else (decide_eq_false (by omega)) rfl
noncomputable def S.slices_Equal_api_PrefixRule_api_PrefixRule (a0 : List TPrefixRule) (a1 : List TPrefixRule) : Bool :=
  bif (a0.length : Int) != (a1.length : Int) then false else (letS (runN (S.slices_Equal_api_PrefixRule_api_PrefixRule_l1 a0 a1) (.inl ()) 0 a0.length) (fun y3 => Sum.elim (fun _ => true) (fun y5 => y5) y3))
theorem s_slices_Equal_api_PrefixRule_api_PrefixRule (a0 : List TPrefixRule) (a1 : List TPrefixRule) (ha0 : a0.length ≤ maxLen) (ha1 : a1.length ≤ maxLen) : M.slices_Equal_api_PrefixRule_api_PrefixRule a0 a1 = some (S.slices_Equal_api_PrefixRule_api_PrefixRule a0 a1) := by
  have hM := maxLen_eq
  unfold M.slices_Equal_api_PrefixRule_api_PrefixRule S.slices_Equal_api_PrefixRule_api_PrefixRule
  refine s_if (fun hb1 => ?_) (fun hb1 => ?_)
  · rfl
  · refine s_bind (s_slices_Equal_api_PrefixRule_api_PrefixRule_l1 a0 a1 ha0 ha1 (by simp at *; omega) 0) (fun y3 hey3 => ?_)
    refine s_elim (fun _ hl => ?_) (fun y5 hly5 => ?_)
    · rfl
    · rfl
noncomputable def S.model_Same_1 (a0 : TPrefixList) (a1 : TPrefixList) : Bool :=
  letS (bif (strEq a0.fName a1.fName) then S.slices_Equal_api_PrefixRule_api_PrefixRule a0.fRules a1.fRules else default) (fun r1 => (strEq a0.fName a1.fName) && r1)
theorem s_model_Same_1 (a0 : TPrefixList) (a1 : TPrefixList) (ha0 : L_TPrefixList a0) (ha1 : L_TPrefixList a1) : M.model_Same_1 a0 a1 = some (S.model_Same_1 a0 a1) := by
  have hM := maxLen_eq
  unfold M.model_Same_1 S.model_Same_1
  refine s_bind (s_gc fun hg => (s_slices_Equal_api_PrefixRule_api_PrefixRule a0.fRules a1.fRules (L_TPrefixList.fRules ha0) (L_TPrefixList.fRules ha1))) (fun r1 her1 => ?_)
  rfl
noncomputable def S.slices_EqualFunc_api_PrefixList_api_PrefixList_api_PrefixList_api_PrefixList__model_Same_1_l1 (a0 : List TPrefixList) (a1 : List TPrefixList) (i1 : Nat) : Option (Unit ⊕ Bool) :=
  letS (S.model_Same_1 (a0.getD i1 default) (a1.getD i1 default)) (fun r3 => bif !r3 then (some (.inr false)) else none)
theorem s_slices_EqualFunc_api_PrefixList_api_PrefixList_api_PrefixList_api_PrefixList__model_Same_1_l1 (a0 : List TPrefixList) (a1 : List TPrefixList) (ha0 : LL L_TPrefixList a0) (ha1 : LL L_TPrefixList a1) (hlen : a0.length = a1.length) (i0 : Nat) : loopM (M.slices_EqualFunc_api_PrefixList_api_PrefixList_api_PrefixList_api_PrefixList__model_Same_1_l1 a0 a1) (i0 : Int) = some (runN (S.slices_EqualFunc_api_PrefixList_api_PrefixList_api_PrefixList_api_PrefixList__model_Same_1_l1 a0 a1) (.inl ()) i0 (a0.length - i0)) := by
  have hM := maxLen_eq
  have hni1 : a0.length ≤ maxLen := ha0.1
  refine loop_runN (n := a0.length) (fun i1 hi1 => ?_) (fun m hm => ?_) i0
  · unfold M.slices_EqualFunc_api_PrefixList_api_PrefixList_api_PrefixList_api_PrefixList__model_Same_1_l1 S.slices_EqualFunc_api_PrefixList_api_PrefixList_api_PrefixList_api_PrefixList__model_Same_1_l1
    try simp only [Int.toNat_natCast]
    refine s_then (dt (by omega)) ?_
    refine s_gd (all_c (dt (by omega)) (all_c (dt (by omega)) all_n)) ?_
    refine s_gd (all_c (dt (by omega)) (all_c (dt (by omega)) all_n)) ?_
    refine s_bindN (s_model_Same_1 (a0.getD i1 default) (a1.getD i1 default) (LL.getD ha0 L_TPrefixList.dflt i1) (LL.getD ha1 L_TPrefixList.dflt i1)) (fun r3 her3 => ?_)
    refine s_ifN (fun hb2 => ?_) (fun hb2 => ?_)
    · exact s_out
    · exact s_up (by omega)
  · unfold M.slices_EqualFunc_api_PrefixList_api_PrefixList_api_PrefixList_api_PrefixList__model_Same_1_l1
    try simp only [Int.toNat_natCast]
    exact s_else (decide_eq_false (by omega)) rfl
noncomputable def S.slices_EqualFunc_api_PrefixList_api_PrefixList_api_PrefixList_api_PrefixList__model_Same_1 (a0 : List TPrefixList) (a1 : List TPrefixList) : Bool :=
  bif (a0.length : Int) != (a1.length : Int) then false else (letS (runN (S.slices_EqualFunc_api_PrefixList_api_PrefixList_api_PrefixList_api_PrefixList__model_Same_1_l1 a0 a1) (.inl ()) 0 a0.length) (fun y4 => Sum.elim (fun _ => true) (fun y6 => y6) y4))
theorem s_slices_EqualFunc_api_PrefixList_api_PrefixList_api_PrefixList_api_PrefixList__model_Same_1 (a0 : List TPrefixList) (a1 : List TPrefixList) (ha0 : LL L_TPrefixList a0) (ha1 : LL L_TPrefixList a1) : M.slices_EqualFunc_api_PrefixList_api_PrefixList_api_PrefixList_api_PrefixList__model_Same_1 a0 a1 = some (S.slices_EqualFunc_api_PrefixList_api_PrefixList_api_PrefixList_api_PrefixList__model_Same_1 a0 a1) := by
  have hM := maxLen_eq
  unfold M.slices_EqualFunc_api_PrefixList_api_PrefixList_api_PrefixList_api_PrefixList__model_Same_1 S.slices_EqualFunc_api_PrefixList_api_PrefixList_api_PrefixList_api_PrefixList__model_Same_1
  refine s_if (fun hb1 => ?_) (fun hb1 => ?_)
  · rfl
  · refine s_bind (s_slices_EqualFunc_api_PrefixList_api_PrefixList_api_PrefixList_api_PrefixList__model_Same_1_l1 a0 a1 ha0 ha1 (by simp at *; omega) 0) (fun y4 hey4 => ?_)
    refine s_elim (fun _ hl => ?_) (fun y6 hly6 => ?_)
    · rfl
    · rfl
noncomputable def S.slices_Equal_api_Clause_api_Clause_l1 (a0 : List TClause) (a1 : List TClause) (i1 : Nat) : Option (Unit ⊕ Bool) :=
  bif !((((a0.getD i1 default).fPermit) == ((a1.getD i1 default).fPermit)) && (strEq ((a0.getD i1 default).fList) ((a1.getD i1 default).fList) && ((((a0.getD i1 default).fTag) == ((a1.getD i1 default).fTag)) && ((((a0.getD i1 default).fSetMetric) == ((a1.getD i1 default).fSetMetric)) && ((((a0.getD i1 default).fSetTag) == ((a1.getD i1 default).fSetTag)) && ((((a0.getD i1 default).fSetPref) == ((a1.getD i1 default).fSetPref)) && ((((a0.getD i1 default).fPrepend) == ((a1.getD i1 default).fPrepend)) && true))))))) then (some (.inr false)) else none
theorem s_slices_Equal_api_Clause_api_Clause_l1 (a0 : List TClause) (a1 : List TClause) (ha0 : LL L_TClause a0) (ha1 : LL L_TClause a1) (hlen : a0.length = a1.length) (i0 : Nat) : loopM (M.slices_Equal_api_Clause_api_Clause_l1 a0 a1) (i0 : Int) = some (runN (S.slices_Equal_api_Clause_api_Clause_l1 a0 a1) (.inl ()) i0 (a0.length - i0)) := by
  have hM := maxLen_eq
  have hni1 : a0.length ≤ maxLen := ha0.1
  refine loop_runN (n := a0.length) (fun i1 hi1 => ?_) (fun m hm => ?_) i0
  · unfold M.slices_Equal_api_Clause_api_Clause_l1 S.slices_Equal_api_Clause_api_Clause_l1
    try simp only [Int.toNat_natCast]
    refine s_then (dt (by omega)) ?_
    refine s_gd (all_c (dt (by omega)) (all_c (dt (by omega)) (all_c (dt (by omega)) (all_c (dt (by omega)) all_n)))) ?_
    refine s_ifN (fun hb2 => ?_) (fun hb2 => ?_)
    · exact s_out
    · exact s_up (by omega)
  · unfold M.slices_Equal_api_Clause_api_Clause_l1
    try simp only [Int.toNat_natCast]
    exact s_else (decide_eq_false (by omega)) rfl
noncomputable def S.slices_Equal_api_Clause_api_Clause (a0 : List TClause) (a1 : List TClause) : Bool :=
  bif (a0.length : Int) != (a1.length : Int) then false else (letS (runN (S.slices_Equal_api_Clause_api_Clause_l1 a0 a1) (.inl ()) 0 a0.length) (fun y3 => Sum.elim (fun _ => true) (fun y5 => y5) y3))
theorem s_slices_Equal_api_Clause_api_Clause (a0 : List TClause) (a1 : List TClause) (ha0 : LL L_TClause a0) (ha1 : LL L_TClause a1) : M.slices_Equal_api_Clause_api_Clause a0 a1 = some (S.slices_Equal_api_Clause_api_Clause a0 a1) := by
  have hM := maxLen_eq
  unfold M.slices_Equal_api_Clause_api_Clause S.slices_Equal_api_Clause_api_Clause
  refine s_if (fun hb1 => ?_) (fun hb1 => ?_)
  · rfl
  · refine s_bind (s_slices_Equal_api_Clause_api_Clause_l1 a0 a1 ha0 ha1 (by simp at *; omega) 0) (fun y3 hey3 => ?_)
    refine s_elim (fun _ hl => ?_) (fun y5 hly5 => ?_)
    · rfl
    · rfl
noncomputable def S.model_Same_2 (a0 : TRouteMap) (a1 : TRouteMap) : Bool :=
  letS (bif (strEq a0.fName a1.fName) then S.slices_Equal_api_Clause_api_Clause a0.fClauses a1.fClauses else default) (fun r1 => (strEq a0.fName a1.fName) && r1)
theorem s_model_Same_2 (a0 : TRouteMap) (a1 : TRouteMap) (ha0 : L_TRouteMap a0) (ha1 : L_TRouteMap a1) : M.model_Same_2 a0 a1 = some (S.model_Same_2 a0 a1) := by
  have hM := maxLen_eq
  unfold M.model_Same_2 S.model_Same_2
  refine s_bind (s_gc fun hg => (s_slices_Equal_api_Clause_api_Clause a0.fClauses a1.fClauses (L_TRouteMap.fClauses ha0) (L_TRouteMap.fClauses ha1))) (fun r1 her1 => ?_)
  rfl
noncomputable def S.slices_EqualFunc_api_RouteMap_api_RouteMap_api_RouteMap_api_RouteMap__model_Same_2_l1 (a0 : List TRouteMap) (a1 : List TRouteMap) (i1 : Nat) : Option (Unit ⊕ Bool) :=
  letS (S.model_Same_2 (a0.getD i1 default) (a1.getD i1 default)) (fun r3 => bif !r3 then (some (.inr false)) else none)
theorem s_slices_EqualFunc_api_RouteMap_api_RouteMap_api_RouteMap_api_RouteMap__model_Same_2_l1 (a0 : List TRouteMap) (a1 : List TRouteMap) (ha0 : LL L_TRouteMap a0) (ha1 : LL L_TRouteMap a1) (hlen : a0.length = a1.length) (i0 : Nat) : loopM (M.slices_EqualFunc_api_RouteMap_api_RouteMap_api_RouteMap_api_RouteMap__model_Same_2_l1 a0 a1) (i0 : Int) = some (runN (S.slices_EqualFunc_api_RouteMap_api_RouteMap_api_RouteMap_api_RouteMap__model_Same_2_l1 a0 a1) (.inl ()) i0 (a0.length - i0)) := by
  have hM := maxLen_eq
  have hni1 : a0.length ≤ maxLen := ha0.1
  refine loop_runN (n := a0.length) (fun i1 hi1 => ?_) (fun m hm => ?_) i0
  · unfold M.slices_EqualFunc_api_RouteMap_api_RouteMap_api_RouteMap_api_RouteMap__model_Same_2_l1 S.slices_EqualFunc_api_RouteMap_api_RouteMap_api_RouteMap_api_RouteMap__model_Same_2_l1
    try simp only [Int.toNat_natCast]
    refine s_then (dt (by omega)) ?_
    refine s_gd (all_c (dt (by omega)) (all_c (dt (by omega)) all_n)) ?_
    refine s_gd (all_c (dt (by omega)) (all_c (dt (by omega)) all_n)) ?_
    refine s_bindN (s_model_Same_2 (a0.getD i1 default) (a1.getD i1 default) (LL.getD ha0 L_TRouteMap.dflt i1) (LL.getD ha1 L_TRouteMap.dflt i1)) (fun r3 her3 => ?_)
    refine s_ifN (fun hb2 => ?_) (fun hb2 => ?_)
    · exact s_out
    · exact s_up (by omega)
  · unfold M.slices_EqualFunc_api_RouteMap_api_RouteMap_api_RouteMap_api_RouteMap__model_Same_2_l1
    try simp only [Int.toNat_natCast]
    exact s_else (decide_eq_false (by omega)) rfl
noncomputable def S.slices_EqualFunc_api_RouteMap_api_RouteMap_api_RouteMap_api_RouteMap__model_Same_2 (a0 : List TRouteMap) (a1 : List TRouteMap) : Bool :=
  bif (a0.length : Int) != (a1.length : Int) then false else (letS (runN (S.slices_EqualFunc_api_RouteMap_api_RouteMap_api_RouteMap_api_RouteMap__model_Same_2_l1 a0 a1) (.inl ()) 0 a0.length) (fun y4 => Sum.elim (fun _ => true) (fun y6 => y6) y4))
theorem s_slices_EqualFunc_api_RouteMap_api_RouteMap_api_RouteMap_api_RouteMap__model_Same_2 (a0 : List TRouteMap) (a1 : List TRouteMap) (ha0 : LL L_TRouteMap a0) (ha1 : LL L_TRouteMap a1) : M.slices_EqualFunc_api_RouteMap_api_RouteMap_api_RouteMap_api_RouteMap__model_Same_2 a0 a1 = some (S.slices_EqualFunc_api_RouteMap_api_RouteMap_api_RouteMap_api_RouteMap__model_Same_2 a0 a1) := by
  have hM := maxLen_eq
  unfold M.slices_EqualFunc_api_RouteMap_api_RouteMap_api_RouteMap_api_RouteMap__model_Same_2 S.slices_EqualFunc_api_RouteMap_api_RouteMap_api_RouteMap_api_RouteMap__model_Same_2
  refine s_if (fun hb1 => ?_) (fun hb1 => ?_)
  · rfl
  · refine s_bind (s_slices_EqualFunc_api_RouteMap_api_RouteMap_api_RouteMap_api_RouteMap__model_Same_2_l1 a0 a1 ha0 ha1 (by simp at *; omega) 0) (fun y4 hey4 => ?_)
    refine s_elim (fun _ hl => ?_) (fun y6 hly6 => ?_)
    · rfl
    · rfl
noncomputable def S.slices_Equal_api_Rule_api_Rule_l1 (a0 : List TRule) (a1 : List TRule) (i1 : Nat) : Option (Unit ⊕ Bool) :=
  bif !((((a0.getD i1 default).fPermit) == ((a1.getD i1 default).fPermit)) && ((((a0.getD i1 default).fProto) == ((a1.getD i1 default).fProto)) && ((((((a0.getD i1 default).fSrc).fAddr) == (((a1.getD i1 default).fSrc).fAddr)) && (((((a0.getD i1 default).fSrc).fMask) == (((a1.getD i1 default).fSrc).fMask)) && true)) && ((((((a0.getD i1 default).fDst).fAddr) == (((a1.getD i1 default).fDst).fAddr)) && (((((a0.getD i1 default).fDst).fMask) == (((a1.getD i1 default).fDst).fMask)) && true)) && ((((((a0.getD i1 default).fSrcPorts).fLo) == (((a1.getD i1 default).fSrcPorts).fLo)) && (((((a0.getD i1 default).fSrcPorts).fHi) == (((a1.getD i1 default).fSrcPorts).fHi)) && true)) && ((((((a0.getD i1 default).fDstPorts).fLo) == (((a1.getD i1 default).fDstPorts).fLo)) && (((((a0.getD i1 default).fDstPorts).fHi) == (((a1.getD i1 default).fDstPorts).fHi)) && true)) && true)))))) then (some (.inr false)) else none
theorem s_slices_Equal_api_Rule_api_Rule_l1 (a0 : List TRule) (a1 : List TRule) (ha0 : a0.length ≤ maxLen) (ha1 : a1.length ≤ maxLen) (hlen : a0.length = a1.length) (i0 : Nat) : loopM (M.slices_Equal_api_Rule_api_Rule_l1 a0 a1) (i0 : Int) = some (runN (S.slices_Equal_api_Rule_api_Rule_l1 a0 a1) (.inl ()) i0 (a0.length - i0)) := by
  have hM := maxLen_eq
  have hni1 : a0.length ≤ maxLen := ha0
  refine loop_runN (n := a0.length) (fun i1 hi1 => ?_) (fun m hm => ?_) i0
  · unfold M.slices_Equal_api_Rule_api_Rule_l1 S.slices_Equal_api_Rule_api_Rule_l1
    try simp only [Int.toNat_natCast]
    refine s_then (dt (by omega)) ?_
    refine s_gd (all_c (dt (by omega)) (all_c (dt (by omega)) (all_c (dt (by omega)) (all_c (dt (by omega)) all_n)))) ?_
    refine s_ifN (fun hb2 => ?_) (fun hb2 => ?_)
    · exact s_out
    · exact s_up (by omega)
  · unfold M.slices_Equal_api_Rule_api_Rule_l1
    try simp only [Int.toNat_natCast]
    exact s_else (decide_eq_false (by omega)) rfl
noncomputable def S.slices_Equal_api_Rule_api_Rule (a0 : List TRule) (a1 : List TRule) : Bool :=
  bif (a0.length : Int) != (a1.length : Int) then false else (letS (runN (S.slices_Equal_api_Rule_api_Rule_l1 a0 a1) (.inl ()) 0 a0.length) (fun y3 => Sum.elim (fun _ => true) (fun y5 => y5) y3))
theorem s_slices_Equal_api_Rule_api_Rule (a0 : List TRule) (a1 : List TRule) (ha0 : a0.length ≤ maxLen) (ha1 : a1.length ≤ maxLen) : M.slices_Equal_api_Rule_api_Rule a0 a1 = some (S.slices_Equal_api_Rule_api_Rule a0 a1) := by
  have hM := maxLen_eq
  unfold M.slices_Equal_api_Rule_api_Rule S.slices_Equal_api_Rule_api_Rule
  refine s_if (fun hb1 => ?_) (fun hb1 => ?_)
  · rfl
  · refine s_bind (s_slices_Equal_api_Rule_api_Rule_l1 a0 a1 ha0 ha1 (by simp at *; omega) 0) (fun y3 hey3 => ?_)
    refine s_elim (fun _ hl => ?_) (fun y5 hly5 => ?_)
    · rfl
    · rfl
noncomputable def S.model_Same_3 (a0 : TACL) (a1 : TACL) : Bool :=
  letS (bif (strEq a0.fName a1.fName) then S.slices_Equal_api_Rule_api_Rule a0.fRules a1.fRules else default) (fun r1 => (strEq a0.fName a1.fName) && r1)
theorem s_model_Same_3 (a0 : TACL) (a1 : TACL) (ha0 : L_TACL a0) (ha1 : L_TACL a1) : M.model_Same_3 a0 a1 = some (S.model_Same_3 a0 a1) := by
  have hM := maxLen_eq
  unfold M.model_Same_3 S.model_Same_3
  refine s_bind (s_gc fun hg => (s_slices_Equal_api_Rule_api_Rule a0.fRules a1.fRules (L_TACL.fRules ha0) (L_TACL.fRules ha1))) (fun r1 her1 => ?_)
  rfl
noncomputable def S.slices_EqualFunc_api_ACL_api_ACL_api_ACL_api_ACL__model_Same_3_l1 (a0 : List TACL) (a1 : List TACL) (i1 : Nat) : Option (Unit ⊕ Bool) :=
  letS (S.model_Same_3 (a0.getD i1 default) (a1.getD i1 default)) (fun r3 => bif !r3 then (some (.inr false)) else none)
theorem s_slices_EqualFunc_api_ACL_api_ACL_api_ACL_api_ACL__model_Same_3_l1 (a0 : List TACL) (a1 : List TACL) (ha0 : LL L_TACL a0) (ha1 : LL L_TACL a1) (hlen : a0.length = a1.length) (i0 : Nat) : loopM (M.slices_EqualFunc_api_ACL_api_ACL_api_ACL_api_ACL__model_Same_3_l1 a0 a1) (i0 : Int) = some (runN (S.slices_EqualFunc_api_ACL_api_ACL_api_ACL_api_ACL__model_Same_3_l1 a0 a1) (.inl ()) i0 (a0.length - i0)) := by
  have hM := maxLen_eq
  have hni1 : a0.length ≤ maxLen := ha0.1
  refine loop_runN (n := a0.length) (fun i1 hi1 => ?_) (fun m hm => ?_) i0
  · unfold M.slices_EqualFunc_api_ACL_api_ACL_api_ACL_api_ACL__model_Same_3_l1 S.slices_EqualFunc_api_ACL_api_ACL_api_ACL_api_ACL__model_Same_3_l1
    try simp only [Int.toNat_natCast]
    refine s_then (dt (by omega)) ?_
    refine s_gd (all_c (dt (by omega)) (all_c (dt (by omega)) all_n)) ?_
    refine s_gd (all_c (dt (by omega)) (all_c (dt (by omega)) all_n)) ?_
    refine s_bindN (s_model_Same_3 (a0.getD i1 default) (a1.getD i1 default) (LL.getD ha0 L_TACL.dflt i1) (LL.getD ha1 L_TACL.dflt i1)) (fun r3 her3 => ?_)
    refine s_ifN (fun hb2 => ?_) (fun hb2 => ?_)
    · exact s_out
    · exact s_up (by omega)
  · unfold M.slices_EqualFunc_api_ACL_api_ACL_api_ACL_api_ACL__model_Same_3_l1
    try simp only [Int.toNat_natCast]
    exact s_else (decide_eq_false (by omega)) rfl
noncomputable def S.slices_EqualFunc_api_ACL_api_ACL_api_ACL_api_ACL__model_Same_3 (a0 : List TACL) (a1 : List TACL) : Bool :=
  bif (a0.length : Int) != (a1.length : Int) then false else (letS (runN (S.slices_EqualFunc_api_ACL_api_ACL_api_ACL_api_ACL__model_Same_3_l1 a0 a1) (.inl ()) 0 a0.length) (fun y4 => Sum.elim (fun _ => true) (fun y6 => y6) y4))
theorem s_slices_EqualFunc_api_ACL_api_ACL_api_ACL_api_ACL__model_Same_3 (a0 : List TACL) (a1 : List TACL) (ha0 : LL L_TACL a0) (ha1 : LL L_TACL a1) : M.slices_EqualFunc_api_ACL_api_ACL_api_ACL_api_ACL__model_Same_3 a0 a1 = some (S.slices_EqualFunc_api_ACL_api_ACL_api_ACL_api_ACL__model_Same_3 a0 a1) := by
  have hM := maxLen_eq
  unfold M.slices_EqualFunc_api_ACL_api_ACL_api_ACL_api_ACL__model_Same_3 S.slices_EqualFunc_api_ACL_api_ACL_api_ACL_api_ACL__model_Same_3
  refine s_if (fun hb1 => ?_) (fun hb1 => ?_)
  · rfl
  · refine s_bind (s_slices_EqualFunc_api_ACL_api_ACL_api_ACL_api_ACL__model_Same_3_l1 a0 a1 ha0 ha1 (by simp at *; omega) 0) (fun y4 hey4 => ?_)
    refine s_elim (fun _ hl => ?_) (fun y6 hly6 => ?_)
    · rfl
    · rfl
noncomputable def S.slices_Equal_api_Translation_api_Translation_l1 (a0 : List TTranslation) (a1 : List TTranslation) (i1 : Nat) : Option (Unit ⊕ Bool) :=
  bif !((((a0.getD i1 default).fKind) == ((a1.getD i1 default).fKind)) && ((((a0.getD i1 default).fInside) == ((a1.getD i1 default).fInside)) && ((((a0.getD i1 default).fOutside) == ((a1.getD i1 default).fOutside)) && ((((a0.getD i1 default).fProto) == ((a1.getD i1 default).fProto)) && ((((a0.getD i1 default).fInsidePort) == ((a1.getD i1 default).fInsidePort)) && ((((a0.getD i1 default).fOutsidePort) == ((a1.getD i1 default).fOutsidePort)) && (strEq ((a0.getD i1 default).fList) ((a1.getD i1 default).fList) && ((((a0.getD i1 default).fLo) == ((a1.getD i1 default).fLo)) && ((((a0.getD i1 default).fHi) == ((a1.getD i1 default).fHi)) && true))))))))) then (some (.inr false)) else none
theorem s_slices_Equal_api_Translation_api_Translation_l1 (a0 : List TTranslation) (a1 : List TTranslation) (ha0 : LL L_TTranslation a0) (ha1 : LL L_TTranslation a1) (hlen : a0.length = a1.length) (i0 : Nat) : loopM (M.slices_Equal_api_Translation_api_Translation_l1 a0 a1) (i0 : Int) = some (runN (S.slices_Equal_api_Translation_api_Translation_l1 a0 a1) (.inl ()) i0 (a0.length - i0)) := by
  have hM := maxLen_eq
  have hni1 : a0.length ≤ maxLen := ha0.1
  refine loop_runN (n := a0.length) (fun i1 hi1 => ?_) (fun m hm => ?_) i0
  · unfold M.slices_Equal_api_Translation_api_Translation_l1 S.slices_Equal_api_Translation_api_Translation_l1
    try simp only [Int.toNat_natCast]
    refine s_then (dt (by omega)) ?_
    refine s_gd (all_c (dt (by omega)) (all_c (dt (by omega)) (all_c (dt (by omega)) (all_c (dt (by omega)) all_n)))) ?_
    refine s_ifN (fun hb2 => ?_) (fun hb2 => ?_)
    · exact s_out
    · exact s_up (by omega)
  · unfold M.slices_Equal_api_Translation_api_Translation_l1
    try simp only [Int.toNat_natCast]
    exact s_else (decide_eq_false (by omega)) rfl
noncomputable def S.slices_Equal_api_Translation_api_Translation (a0 : List TTranslation) (a1 : List TTranslation) : Bool :=
  bif (a0.length : Int) != (a1.length : Int) then false else (letS (runN (S.slices_Equal_api_Translation_api_Translation_l1 a0 a1) (.inl ()) 0 a0.length) (fun y3 => Sum.elim (fun _ => true) (fun y5 => y5) y3))
theorem s_slices_Equal_api_Translation_api_Translation (a0 : List TTranslation) (a1 : List TTranslation) (ha0 : LL L_TTranslation a0) (ha1 : LL L_TTranslation a1) : M.slices_Equal_api_Translation_api_Translation a0 a1 = some (S.slices_Equal_api_Translation_api_Translation a0 a1) := by
  have hM := maxLen_eq
  unfold M.slices_Equal_api_Translation_api_Translation S.slices_Equal_api_Translation_api_Translation
  refine s_if (fun hb1 => ?_) (fun hb1 => ?_)
  · rfl
  · refine s_bind (s_slices_Equal_api_Translation_api_Translation_l1 a0 a1 ha0 ha1 (by simp at *; omega) 0) (fun y3 hey3 => ?_)
    refine s_elim (fun _ hl => ?_) (fun y5 hly5 => ?_)
    · rfl
    · rfl
noncomputable def S.slices_Equal_api_StaticRoute_api_StaticRoute_l1 (a0 : List TStaticRoute) (a1 : List TStaticRoute) (i1 : Nat) : Option (Unit ⊕ Bool) :=
  bif !((((((a0.getD i1 default).fPrefix).fAddr) == (((a1.getD i1 default).fPrefix).fAddr)) && (((((a0.getD i1 default).fPrefix).fLen) == (((a1.getD i1 default).fPrefix).fLen)) && true)) && ((((a0.getD i1 default).fNext) == ((a1.getD i1 default).fNext)) && (strEq ((a0.getD i1 default).fIface) ((a1.getD i1 default).fIface) && ((((a0.getD i1 default).fDiscard) == ((a1.getD i1 default).fDiscard)) && ((((a0.getD i1 default).fAdmin) == ((a1.getD i1 default).fAdmin)) && ((((a0.getD i1 default).fTag) == ((a1.getD i1 default).fTag)) && true)))))) then (some (.inr false)) else none
theorem s_slices_Equal_api_StaticRoute_api_StaticRoute_l1 (a0 : List TStaticRoute) (a1 : List TStaticRoute) (ha0 : LL L_TStaticRoute a0) (ha1 : LL L_TStaticRoute a1) (hlen : a0.length = a1.length) (i0 : Nat) : loopM (M.slices_Equal_api_StaticRoute_api_StaticRoute_l1 a0 a1) (i0 : Int) = some (runN (S.slices_Equal_api_StaticRoute_api_StaticRoute_l1 a0 a1) (.inl ()) i0 (a0.length - i0)) := by
  have hM := maxLen_eq
  have hni1 : a0.length ≤ maxLen := ha0.1
  refine loop_runN (n := a0.length) (fun i1 hi1 => ?_) (fun m hm => ?_) i0
  · unfold M.slices_Equal_api_StaticRoute_api_StaticRoute_l1 S.slices_Equal_api_StaticRoute_api_StaticRoute_l1
    try simp only [Int.toNat_natCast]
    refine s_then (dt (by omega)) ?_
    refine s_gd (all_c (dt (by omega)) (all_c (dt (by omega)) (all_c (dt (by omega)) (all_c (dt (by omega)) all_n)))) ?_
    refine s_ifN (fun hb2 => ?_) (fun hb2 => ?_)
    · exact s_out
    · exact s_up (by omega)
  · unfold M.slices_Equal_api_StaticRoute_api_StaticRoute_l1
    try simp only [Int.toNat_natCast]
    exact s_else (decide_eq_false (by omega)) rfl
noncomputable def S.slices_Equal_api_StaticRoute_api_StaticRoute (a0 : List TStaticRoute) (a1 : List TStaticRoute) : Bool :=
  bif (a0.length : Int) != (a1.length : Int) then false else (letS (runN (S.slices_Equal_api_StaticRoute_api_StaticRoute_l1 a0 a1) (.inl ()) 0 a0.length) (fun y3 => Sum.elim (fun _ => true) (fun y5 => y5) y3))
theorem s_slices_Equal_api_StaticRoute_api_StaticRoute (a0 : List TStaticRoute) (a1 : List TStaticRoute) (ha0 : LL L_TStaticRoute a0) (ha1 : LL L_TStaticRoute a1) : M.slices_Equal_api_StaticRoute_api_StaticRoute a0 a1 = some (S.slices_Equal_api_StaticRoute_api_StaticRoute a0 a1) := by
  have hM := maxLen_eq
  unfold M.slices_Equal_api_StaticRoute_api_StaticRoute S.slices_Equal_api_StaticRoute_api_StaticRoute
  refine s_if (fun hb1 => ?_) (fun hb1 => ?_)
  · rfl
  · refine s_bind (s_slices_Equal_api_StaticRoute_api_StaticRoute_l1 a0 a1 ha0 ha1 (by simp at *; omega) 0) (fun y3 hey3 => ?_)
    refine s_elim (fun _ hl => ?_) (fun y5 hly5 => ?_)
    · rfl
    · rfl
noncomputable def S.slices_Equal_api_AreaRange_api_AreaRange_l1 (a0 : List TAreaRange) (a1 : List TAreaRange) (i1 : Nat) : Option (Unit ⊕ Bool) :=
  bif !((((a0.getD i1 default).fArea) == ((a1.getD i1 default).fArea)) && ((((((a0.getD i1 default).fPrefix).fAddr) == (((a1.getD i1 default).fPrefix).fAddr)) && (((((a0.getD i1 default).fPrefix).fLen) == (((a1.getD i1 default).fPrefix).fLen)) && true)) && true)) then (some (.inr false)) else none
theorem s_slices_Equal_api_AreaRange_api_AreaRange_l1 (a0 : List TAreaRange) (a1 : List TAreaRange) (ha0 : a0.length ≤ maxLen) (ha1 : a1.length ≤ maxLen) (hlen : a0.length = a1.length) (i0 : Nat) : loopM (M.slices_Equal_api_AreaRange_api_AreaRange_l1 a0 a1) (i0 : Int) = some (runN (S.slices_Equal_api_AreaRange_api_AreaRange_l1 a0 a1) (.inl ()) i0 (a0.length - i0)) := by
  have hM := maxLen_eq
  have hni1 : a0.length ≤ maxLen := ha0
  refine loop_runN (n := a0.length) (fun i1 hi1 => ?_) (fun m hm => ?_) i0
  · unfold M.slices_Equal_api_AreaRange_api_AreaRange_l1 S.slices_Equal_api_AreaRange_api_AreaRange_l1
    try simp only [Int.toNat_natCast]
    refine s_then (dt (by omega)) ?_
    refine s_gd (all_c (dt (by omega)) (all_c (dt (by omega)) (all_c (dt (by omega)) (all_c (dt (by omega)) all_n)))) ?_
    refine s_ifN (fun hb2 => ?_) (fun hb2 => ?_)
    · exact s_out
    · exact s_up (by omega)
  · unfold M.slices_Equal_api_AreaRange_api_AreaRange_l1
    try simp only [Int.toNat_natCast]
    exact s_else (decide_eq_false (by omega)) rfl
noncomputable def S.slices_Equal_api_AreaRange_api_AreaRange (a0 : List TAreaRange) (a1 : List TAreaRange) : Bool :=
  bif (a0.length : Int) != (a1.length : Int) then false else (letS (runN (S.slices_Equal_api_AreaRange_api_AreaRange_l1 a0 a1) (.inl ()) 0 a0.length) (fun y3 => Sum.elim (fun _ => true) (fun y5 => y5) y3))
theorem s_slices_Equal_api_AreaRange_api_AreaRange (a0 : List TAreaRange) (a1 : List TAreaRange) (ha0 : a0.length ≤ maxLen) (ha1 : a1.length ≤ maxLen) : M.slices_Equal_api_AreaRange_api_AreaRange a0 a1 = some (S.slices_Equal_api_AreaRange_api_AreaRange a0 a1) := by
  have hM := maxLen_eq
  unfold M.slices_Equal_api_AreaRange_api_AreaRange S.slices_Equal_api_AreaRange_api_AreaRange
  refine s_if (fun hb1 => ?_) (fun hb1 => ?_)
  · rfl
  · refine s_bind (s_slices_Equal_api_AreaRange_api_AreaRange_l1 a0 a1 ha0 ha1 (by simp at *; omega) 0) (fun y3 hey3 => ?_)
    refine s_elim (fun _ hl => ?_) (fun y5 hly5 => ?_)
    · rfl
    · rfl
noncomputable def S.slices_Equal_api_Redist_api_Redist_l1 (a0 : List TRedist) (a1 : List TRedist) (i1 : Nat) : Option (Unit ⊕ Bool) :=
  bif !((((a0.getD i1 default).fFrom) == ((a1.getD i1 default).fFrom)) && ((((a0.getD i1 default).fMetric) == ((a1.getD i1 default).fMetric)) && ((((a0.getD i1 default).fTag) == ((a1.getD i1 default).fTag)) && (strEq ((a0.getD i1 default).fMap) ((a1.getD i1 default).fMap) && ((((a0.getD i1 default).fType) == ((a1.getD i1 default).fType)) && true))))) then (some (.inr false)) else none
theorem s_slices_Equal_api_Redist_api_Redist_l1 (a0 : List TRedist) (a1 : List TRedist) (ha0 : LL L_TRedist a0) (ha1 : LL L_TRedist a1) (hlen : a0.length = a1.length) (i0 : Nat) : loopM (M.slices_Equal_api_Redist_api_Redist_l1 a0 a1) (i0 : Int) = some (runN (S.slices_Equal_api_Redist_api_Redist_l1 a0 a1) (.inl ()) i0 (a0.length - i0)) := by
  have hM := maxLen_eq
  have hni1 : a0.length ≤ maxLen := ha0.1
  refine loop_runN (n := a0.length) (fun i1 hi1 => ?_) (fun m hm => ?_) i0
  · unfold M.slices_Equal_api_Redist_api_Redist_l1 S.slices_Equal_api_Redist_api_Redist_l1
    try simp only [Int.toNat_natCast]
    refine s_then (dt (by omega)) ?_
    refine s_gd (all_c (dt (by omega)) (all_c (dt (by omega)) (all_c (dt (by omega)) (all_c (dt (by omega)) all_n)))) ?_
    refine s_ifN (fun hb2 => ?_) (fun hb2 => ?_)
    · exact s_out
    · exact s_up (by omega)
  · unfold M.slices_Equal_api_Redist_api_Redist_l1
    try simp only [Int.toNat_natCast]
    exact s_else (decide_eq_false (by omega)) rfl
noncomputable def S.slices_Equal_api_Redist_api_Redist (a0 : List TRedist) (a1 : List TRedist) : Bool :=
  bif (a0.length : Int) != (a1.length : Int) then false else (letS (runN (S.slices_Equal_api_Redist_api_Redist_l1 a0 a1) (.inl ()) 0 a0.length) (fun y3 => Sum.elim (fun _ => true) (fun y5 => y5) y3))
theorem s_slices_Equal_api_Redist_api_Redist (a0 : List TRedist) (a1 : List TRedist) (ha0 : LL L_TRedist a0) (ha1 : LL L_TRedist a1) : M.slices_Equal_api_Redist_api_Redist a0 a1 = some (S.slices_Equal_api_Redist_api_Redist a0 a1) := by
  have hM := maxLen_eq
  unfold M.slices_Equal_api_Redist_api_Redist S.slices_Equal_api_Redist_api_Redist
  refine s_if (fun hb1 => ?_) (fun hb1 => ?_)
  · rfl
  · refine s_bind (s_slices_Equal_api_Redist_api_Redist_l1 a0 a1 ha0 ha1 (by simp at *; omega) 0) (fun y3 hey3 => ?_)
    refine s_elim (fun _ hl => ?_) (fun y5 hly5 => ?_)
    · rfl
    · rfl
noncomputable def S.model_sameLinkState (a0 : TLinkState) (a1 : TLinkState) : Bool :=
  letS (bif ((a0.fOn == a1.fOn) && (a0.fAdmin == a1.fAdmin)) then S.slices_Equal_api_AreaRange_api_AreaRange a0.fRanges a1.fRanges else default) (fun r1 => letS (bif (((a0.fOn == a1.fOn) && (a0.fAdmin == a1.fAdmin)) && r1) then S.slices_Equal_api_Redist_api_Redist a0.fRedist a1.fRedist else default) (fun r2 => (((a0.fOn == a1.fOn) && (a0.fAdmin == a1.fAdmin)) && r1) && r2))
theorem s_model_sameLinkState (a0 : TLinkState) (a1 : TLinkState) (ha0 : L_TLinkState a0) (ha1 : L_TLinkState a1) : M.model_sameLinkState a0 a1 = some (S.model_sameLinkState a0 a1) := by
  have hM := maxLen_eq
  unfold M.model_sameLinkState S.model_sameLinkState
  refine s_bind (s_gc fun hg => (s_slices_Equal_api_AreaRange_api_AreaRange a0.fRanges a1.fRanges (L_TLinkState.fRanges ha0) (L_TLinkState.fRanges ha1))) (fun r1 her1 => ?_)
  refine s_bind (s_gc fun hg => (s_slices_Equal_api_Redist_api_Redist a0.fRedist a1.fRedist (L_TLinkState.fRedist ha0) (L_TLinkState.fRedist ha1))) (fun r2 her2 => ?_)
  rfl
noncomputable def S.model_sameDistanceVector (a0 : TDistanceVector) (a1 : TDistanceVector) : Bool :=
  letS (bif ((((a0.fOn == a1.fOn) && (a0.fAdmin == a1.fAdmin)) && (strEq a0.fIn a1.fIn)) && (strEq a0.fOut a1.fOut)) then S.slices_Equal_api_Redist_api_Redist a0.fRedist a1.fRedist else default) (fun r1 => ((((a0.fOn == a1.fOn) && (a0.fAdmin == a1.fAdmin)) && (strEq a0.fIn a1.fIn)) && (strEq a0.fOut a1.fOut)) && r1)
theorem s_model_sameDistanceVector (a0 : TDistanceVector) (a1 : TDistanceVector) (ha0 : L_TDistanceVector a0) (ha1 : L_TDistanceVector a1) : M.model_sameDistanceVector a0 a1 = some (S.model_sameDistanceVector a0 a1) := by
  have hM := maxLen_eq
  unfold M.model_sameDistanceVector S.model_sameDistanceVector
  refine s_bind (s_gc fun hg => (s_slices_Equal_api_Redist_api_Redist a0.fRedist a1.fRedist (L_TDistanceVector.fRedist ha0) (L_TDistanceVector.fRedist ha1))) (fun r1 her1 => ?_)
  rfl
noncomputable def S.slices_Equal_api_Neighbor_api_Neighbor_l1 (a0 : List TNeighbor) (a1 : List TNeighbor) (i1 : Nat) : Option (Unit ⊕ Bool) :=
  bif !((((a0.getD i1 default).fAddr) == ((a1.getD i1 default).fAddr)) && ((((a0.getD i1 default).fAS) == ((a1.getD i1 default).fAS)) && (strEq ((a0.getD i1 default).fIn) ((a1.getD i1 default).fIn) && (strEq ((a0.getD i1 default).fOut) ((a1.getD i1 default).fOut) && true)))) then (some (.inr false)) else none
theorem s_slices_Equal_api_Neighbor_api_Neighbor_l1 (a0 : List TNeighbor) (a1 : List TNeighbor) (ha0 : LL L_TNeighbor a0) (ha1 : LL L_TNeighbor a1) (hlen : a0.length = a1.length) (i0 : Nat) : loopM (M.slices_Equal_api_Neighbor_api_Neighbor_l1 a0 a1) (i0 : Int) = some (runN (S.slices_Equal_api_Neighbor_api_Neighbor_l1 a0 a1) (.inl ()) i0 (a0.length - i0)) := by
  have hM := maxLen_eq
  have hni1 : a0.length ≤ maxLen := ha0.1
  refine loop_runN (n := a0.length) (fun i1 hi1 => ?_) (fun m hm => ?_) i0
  · unfold M.slices_Equal_api_Neighbor_api_Neighbor_l1 S.slices_Equal_api_Neighbor_api_Neighbor_l1
    try simp only [Int.toNat_natCast]
    refine s_then (dt (by omega)) ?_
    refine s_gd (all_c (dt (by omega)) (all_c (dt (by omega)) (all_c (dt (by omega)) (all_c (dt (by omega)) all_n)))) ?_
    refine s_ifN (fun hb2 => ?_) (fun hb2 => ?_)
    · exact s_out
    · exact s_up (by omega)
  · unfold M.slices_Equal_api_Neighbor_api_Neighbor_l1
    try simp only [Int.toNat_natCast]
    exact s_else (decide_eq_false (by omega)) rfl
noncomputable def S.slices_Equal_api_Neighbor_api_Neighbor (a0 : List TNeighbor) (a1 : List TNeighbor) : Bool :=
  bif (a0.length : Int) != (a1.length : Int) then false else (letS (runN (S.slices_Equal_api_Neighbor_api_Neighbor_l1 a0 a1) (.inl ()) 0 a0.length) (fun y3 => Sum.elim (fun _ => true) (fun y5 => y5) y3))
theorem s_slices_Equal_api_Neighbor_api_Neighbor (a0 : List TNeighbor) (a1 : List TNeighbor) (ha0 : LL L_TNeighbor a0) (ha1 : LL L_TNeighbor a1) : M.slices_Equal_api_Neighbor_api_Neighbor a0 a1 = some (S.slices_Equal_api_Neighbor_api_Neighbor a0 a1) := by
  have hM := maxLen_eq
  unfold M.slices_Equal_api_Neighbor_api_Neighbor S.slices_Equal_api_Neighbor_api_Neighbor
  refine s_if (fun hb1 => ?_) (fun hb1 => ?_)
  · rfl
  · refine s_bind (s_slices_Equal_api_Neighbor_api_Neighbor_l1 a0 a1 ha0 ha1 (by simp at *; omega) 0) (fun y3 hey3 => ?_)
    refine s_elim (fun _ hl => ?_) (fun y5 hly5 => ?_)
    · rfl
    · rfl
noncomputable def S.slices_Equal_api_Prefix_api_Prefix_l1 (a0 : List TPrefix) (a1 : List TPrefix) (i1 : Nat) : Option (Unit ⊕ Bool) :=
  bif !((((a0.getD i1 default).fAddr) == ((a1.getD i1 default).fAddr)) && ((((a0.getD i1 default).fLen) == ((a1.getD i1 default).fLen)) && true)) then (some (.inr false)) else none
theorem s_slices_Equal_api_Prefix_api_Prefix_l1 (a0 : List TPrefix) (a1 : List TPrefix) (ha0 : a0.length ≤ maxLen) (ha1 : a1.length ≤ maxLen) (hlen : a0.length = a1.length) (i0 : Nat) : loopM (M.slices_Equal_api_Prefix_api_Prefix_l1 a0 a1) (i0 : Int) = some (runN (S.slices_Equal_api_Prefix_api_Prefix_l1 a0 a1) (.inl ()) i0 (a0.length - i0)) := by
  have hM := maxLen_eq
  have hni1 : a0.length ≤ maxLen := ha0
  refine loop_runN (n := a0.length) (fun i1 hi1 => ?_) (fun m hm => ?_) i0
  · unfold M.slices_Equal_api_Prefix_api_Prefix_l1 S.slices_Equal_api_Prefix_api_Prefix_l1
    try simp only [Int.toNat_natCast]
    refine s_then (dt (by omega)) ?_
    refine s_gd (all_c (dt (by omega)) (all_c (dt (by omega)) (all_c (dt (by omega)) (all_c (dt (by omega)) all_n)))) ?_
    refine s_ifN (fun hb2 => ?_) (fun hb2 => ?_)
    · exact s_out
    · exact s_up (by omega)
  · unfold M.slices_Equal_api_Prefix_api_Prefix_l1
    try simp only [Int.toNat_natCast]
    exact s_else (decide_eq_false (by omega)) rfl
noncomputable def S.slices_Equal_api_Prefix_api_Prefix (a0 : List TPrefix) (a1 : List TPrefix) : Bool :=
  bif (a0.length : Int) != (a1.length : Int) then false else (letS (runN (S.slices_Equal_api_Prefix_api_Prefix_l1 a0 a1) (.inl ()) 0 a0.length) (fun y3 => Sum.elim (fun _ => true) (fun y5 => y5) y3))
theorem s_slices_Equal_api_Prefix_api_Prefix (a0 : List TPrefix) (a1 : List TPrefix) (ha0 : a0.length ≤ maxLen) (ha1 : a1.length ≤ maxLen) : M.slices_Equal_api_Prefix_api_Prefix a0 a1 = some (S.slices_Equal_api_Prefix_api_Prefix a0 a1) := by
  have hM := maxLen_eq
  unfold M.slices_Equal_api_Prefix_api_Prefix S.slices_Equal_api_Prefix_api_Prefix
  refine s_if (fun hb1 => ?_) (fun hb1 => ?_)
  · rfl
  · refine s_bind (s_slices_Equal_api_Prefix_api_Prefix_l1 a0 a1 ha0 ha1 (by simp at *; omega) 0) (fun y3 hey3 => ?_)
    refine s_elim (fun _ hl => ?_) (fun y5 hly5 => ?_)
    · rfl
    · rfl
noncomputable def S.slices_Equal_api_Aggregate_api_Aggregate_l1 (a0 : List TAggregate) (a1 : List TAggregate) (i1 : Nat) : Option (Unit ⊕ Bool) :=
  bif !((((((a0.getD i1 default).fPrefix).fAddr) == (((a1.getD i1 default).fPrefix).fAddr)) && (((((a0.getD i1 default).fPrefix).fLen) == (((a1.getD i1 default).fPrefix).fLen)) && true)) && ((((a0.getD i1 default).fOnly) == ((a1.getD i1 default).fOnly)) && true)) then (some (.inr false)) else none
theorem s_slices_Equal_api_Aggregate_api_Aggregate_l1 (a0 : List TAggregate) (a1 : List TAggregate) (ha0 : a0.length ≤ maxLen) (ha1 : a1.length ≤ maxLen) (hlen : a0.length = a1.length) (i0 : Nat) : loopM (M.slices_Equal_api_Aggregate_api_Aggregate_l1 a0 a1) (i0 : Int) = some (runN (S.slices_Equal_api_Aggregate_api_Aggregate_l1 a0 a1) (.inl ()) i0 (a0.length - i0)) := by
  have hM := maxLen_eq
  have hni1 : a0.length ≤ maxLen := ha0
  refine loop_runN (n := a0.length) (fun i1 hi1 => ?_) (fun m hm => ?_) i0
  · unfold M.slices_Equal_api_Aggregate_api_Aggregate_l1 S.slices_Equal_api_Aggregate_api_Aggregate_l1
    try simp only [Int.toNat_natCast]
    refine s_then (dt (by omega)) ?_
    refine s_gd (all_c (dt (by omega)) (all_c (dt (by omega)) (all_c (dt (by omega)) (all_c (dt (by omega)) all_n)))) ?_
    refine s_ifN (fun hb2 => ?_) (fun hb2 => ?_)
    · exact s_out
    · exact s_up (by omega)
  · unfold M.slices_Equal_api_Aggregate_api_Aggregate_l1
    try simp only [Int.toNat_natCast]
    exact s_else (decide_eq_false (by omega)) rfl
noncomputable def S.slices_Equal_api_Aggregate_api_Aggregate (a0 : List TAggregate) (a1 : List TAggregate) : Bool :=
  bif (a0.length : Int) != (a1.length : Int) then false else (letS (runN (S.slices_Equal_api_Aggregate_api_Aggregate_l1 a0 a1) (.inl ()) 0 a0.length) (fun y3 => Sum.elim (fun _ => true) (fun y5 => y5) y3))
theorem s_slices_Equal_api_Aggregate_api_Aggregate (a0 : List TAggregate) (a1 : List TAggregate) (ha0 : a0.length ≤ maxLen) (ha1 : a1.length ≤ maxLen) : M.slices_Equal_api_Aggregate_api_Aggregate a0 a1 = some (S.slices_Equal_api_Aggregate_api_Aggregate a0 a1) := by
  have hM := maxLen_eq
  unfold M.slices_Equal_api_Aggregate_api_Aggregate S.slices_Equal_api_Aggregate_api_Aggregate
  refine s_if (fun hb1 => ?_) (fun hb1 => ?_)
  · rfl
  · refine s_bind (s_slices_Equal_api_Aggregate_api_Aggregate_l1 a0 a1 ha0 ha1 (by simp at *; omega) 0) (fun y3 hey3 => ?_)
    refine s_elim (fun _ hl => ?_) (fun y5 hly5 => ?_)
    · rfl
    · rfl
noncomputable def S.slices_Equal_api_Condition_api_Condition_l1 (a0 : List TCondition) (a1 : List TCondition) (i1 : Nat) : Option (Unit ⊕ Bool) :=
  bif !((((((a0.getD i1 default).fPrefix).fAddr) == (((a1.getD i1 default).fPrefix).fAddr)) && (((((a0.getD i1 default).fPrefix).fLen) == (((a1.getD i1 default).fPrefix).fLen)) && true)) && ((((((a0.getD i1 default).fIf).fAddr) == (((a1.getD i1 default).fIf).fAddr)) && (((((a0.getD i1 default).fIf).fLen) == (((a1.getD i1 default).fIf).fLen)) && true)) && ((((a0.getD i1 default).fAbsent) == ((a1.getD i1 default).fAbsent)) && true))) then (some (.inr false)) else none
theorem s_slices_Equal_api_Condition_api_Condition_l1 (a0 : List TCondition) (a1 : List TCondition) (ha0 : a0.length ≤ maxLen) (ha1 : a1.length ≤ maxLen) (hlen : a0.length = a1.length) (i0 : Nat) : loopM (M.slices_Equal_api_Condition_api_Condition_l1 a0 a1) (i0 : Int) = some (runN (S.slices_Equal_api_Condition_api_Condition_l1 a0 a1) (.inl ()) i0 (a0.length - i0)) := by
  have hM := maxLen_eq
  have hni1 : a0.length ≤ maxLen := ha0
  refine loop_runN (n := a0.length) (fun i1 hi1 => ?_) (fun m hm => ?_) i0
  · unfold M.slices_Equal_api_Condition_api_Condition_l1 S.slices_Equal_api_Condition_api_Condition_l1
    try simp only [Int.toNat_natCast]
    refine s_then (dt (by omega)) ?_
    refine s_gd (all_c (dt (by omega)) (all_c (dt (by omega)) (all_c (dt (by omega)) (all_c (dt (by omega)) all_n)))) ?_
    refine s_ifN (fun hb2 => ?_) (fun hb2 => ?_)
    · exact s_out
    · exact s_up (by omega)
  · unfold M.slices_Equal_api_Condition_api_Condition_l1
    try simp only [Int.toNat_natCast]
    exact s_else (decide_eq_false (by omega)) rfl
noncomputable def S.slices_Equal_api_Condition_api_Condition (a0 : List TCondition) (a1 : List TCondition) : Bool :=
  bif (a0.length : Int) != (a1.length : Int) then false else (letS (runN (S.slices_Equal_api_Condition_api_Condition_l1 a0 a1) (.inl ()) 0 a0.length) (fun y3 => Sum.elim (fun _ => true) (fun y5 => y5) y3))
theorem s_slices_Equal_api_Condition_api_Condition (a0 : List TCondition) (a1 : List TCondition) (ha0 : a0.length ≤ maxLen) (ha1 : a1.length ≤ maxLen) : M.slices_Equal_api_Condition_api_Condition a0 a1 = some (S.slices_Equal_api_Condition_api_Condition a0 a1) := by
  have hM := maxLen_eq
  unfold M.slices_Equal_api_Condition_api_Condition S.slices_Equal_api_Condition_api_Condition
  refine s_if (fun hb1 => ?_) (fun hb1 => ?_)
  · rfl
  · refine s_bind (s_slices_Equal_api_Condition_api_Condition_l1 a0 a1 ha0 ha1 (by simp at *; omega) 0) (fun y3 hey3 => ?_)
    refine s_elim (fun _ hl => ?_) (fun y5 hly5 => ?_)
    · rfl
    · rfl
noncomputable def S.model_samePathVector (a0 : TPathVector) (a1 : TPathVector) : Bool :=
  letS (bif (((a0.fOn == a1.fOn) && (a0.fExternal == a1.fExternal)) && (a0.fInternal == a1.fInternal)) then S.slices_Equal_api_Neighbor_api_Neighbor a0.fNeighbors a1.fNeighbors else default) (fun r1 => letS (bif ((((a0.fOn == a1.fOn) && (a0.fExternal == a1.fExternal)) && (a0.fInternal == a1.fInternal)) && r1) then S.slices_Equal_api_Prefix_api_Prefix a0.fNetworks a1.fNetworks else default) (fun r2 => letS (bif (((((a0.fOn == a1.fOn) && (a0.fExternal == a1.fExternal)) && (a0.fInternal == a1.fInternal)) && r1) && r2) then S.slices_Equal_api_Aggregate_api_Aggregate a0.fAggregates a1.fAggregates else default) (fun r3 => letS (bif ((((((a0.fOn == a1.fOn) && (a0.fExternal == a1.fExternal)) && (a0.fInternal == a1.fInternal)) && r1) && r2) && r3) then S.slices_Equal_api_Condition_api_Condition a0.fConditions a1.fConditions else default) (fun r4 => letS (bif (((((((a0.fOn == a1.fOn) && (a0.fExternal == a1.fExternal)) && (a0.fInternal == a1.fInternal)) && r1) && r2) && r3) && r4) then S.slices_Equal_api_Redist_api_Redist a0.fRedist a1.fRedist else default) (fun r5 => (((((((a0.fOn == a1.fOn) && (a0.fExternal == a1.fExternal)) && (a0.fInternal == a1.fInternal)) && r1) && r2) && r3) && r4) && r5)))))
theorem s_model_samePathVector (a0 : TPathVector) (a1 : TPathVector) (ha0 : L_TPathVector a0) (ha1 : L_TPathVector a1) : M.model_samePathVector a0 a1 = some (S.model_samePathVector a0 a1) := by
  have hM := maxLen_eq
  unfold M.model_samePathVector S.model_samePathVector
  refine s_bind (s_gc fun hg => (s_slices_Equal_api_Neighbor_api_Neighbor a0.fNeighbors a1.fNeighbors (L_TPathVector.fNeighbors ha0) (L_TPathVector.fNeighbors ha1))) (fun r1 her1 => ?_)
  refine s_bind (s_gc fun hg => (s_slices_Equal_api_Prefix_api_Prefix a0.fNetworks a1.fNetworks (L_TPathVector.fNetworks ha0) (L_TPathVector.fNetworks ha1))) (fun r2 her2 => ?_)
  refine s_bind (s_gc fun hg => (s_slices_Equal_api_Aggregate_api_Aggregate a0.fAggregates a1.fAggregates (L_TPathVector.fAggregates ha0) (L_TPathVector.fAggregates ha1))) (fun r3 her3 => ?_)
  refine s_bind (s_gc fun hg => (s_slices_Equal_api_Condition_api_Condition a0.fConditions a1.fConditions (L_TPathVector.fConditions ha0) (L_TPathVector.fConditions ha1))) (fun r4 her4 => ?_)
  refine s_bind (s_gc fun hg => (s_slices_Equal_api_Redist_api_Redist a0.fRedist a1.fRedist (L_TPathVector.fRedist ha0) (L_TPathVector.fRedist ha1))) (fun r5 her5 => ?_)
  rfl
noncomputable def S.model_Same (a0 : TRouter) (a1 : TRouter) : Bool :=
  letS (bif ((strEq a0.fName a1.fName) && (a0.fAS == a1.fAS)) then S.slices_Equal_api_Interface_api_Interface a0.fInterfaces a1.fInterfaces else default) (fun r1 => letS (bif (((strEq a0.fName a1.fName) && (a0.fAS == a1.fAS)) && r1) then S.slices_EqualFunc_api_PrefixList_api_PrefixList_api_PrefixList_api_PrefixList__model_Same_1 a0.fLists a1.fLists else default) (fun r2 => letS (bif ((((strEq a0.fName a1.fName) && (a0.fAS == a1.fAS)) && r1) && r2) then S.slices_EqualFunc_api_RouteMap_api_RouteMap_api_RouteMap_api_RouteMap__model_Same_2 a0.fMaps a1.fMaps else default) (fun r3 => letS (bif (((((strEq a0.fName a1.fName) && (a0.fAS == a1.fAS)) && r1) && r2) && r3) then S.slices_EqualFunc_api_ACL_api_ACL_api_ACL_api_ACL__model_Same_3 a0.fACLs a1.fACLs else default) (fun r4 => letS (bif ((((((strEq a0.fName a1.fName) && (a0.fAS == a1.fAS)) && r1) && r2) && r3) && r4) then S.slices_Equal_api_Translation_api_Translation a0.fNAT a1.fNAT else default) (fun r5 => letS (bif (((((((strEq a0.fName a1.fName) && (a0.fAS == a1.fAS)) && r1) && r2) && r3) && r4) && r5) then S.slices_Equal_api_StaticRoute_api_StaticRoute a0.fStatics a1.fStatics else default) (fun r6 => letS (bif ((((((((strEq a0.fName a1.fName) && (a0.fAS == a1.fAS)) && r1) && r2) && r3) && r4) && r5) && r6) then S.model_sameLinkState a0.fLS a1.fLS else default) (fun r7 => letS (bif (((((((((strEq a0.fName a1.fName) && (a0.fAS == a1.fAS)) && r1) && r2) && r3) && r4) && r5) && r6) && r7) then S.model_sameDistanceVector a0.fDV a1.fDV else default) (fun r8 => letS (bif ((((((((((strEq a0.fName a1.fName) && (a0.fAS == a1.fAS)) && r1) && r2) && r3) && r4) && r5) && r6) && r7) && r8) then S.model_samePathVector a0.fPV a1.fPV else default) (fun r9 => ((((((((((strEq a0.fName a1.fName) && (a0.fAS == a1.fAS)) && r1) && r2) && r3) && r4) && r5) && r6) && r7) && r8) && r9)))))))))
theorem s_model_Same (a0 : TRouter) (a1 : TRouter) (ha0 : L_TRouter a0) (ha1 : L_TRouter a1) : M.model_Same a0 a1 = some (S.model_Same a0 a1) := by
  have hM := maxLen_eq
  unfold M.model_Same S.model_Same
  refine s_bind (s_gc fun hg => (s_slices_Equal_api_Interface_api_Interface a0.fInterfaces a1.fInterfaces (L_TRouter.fInterfaces ha0) (L_TRouter.fInterfaces ha1))) (fun r1 her1 => ?_)
  refine s_bind (s_gc fun hg => (s_slices_EqualFunc_api_PrefixList_api_PrefixList_api_PrefixList_api_PrefixList__model_Same_1 a0.fLists a1.fLists (L_TRouter.fLists ha0) (L_TRouter.fLists ha1))) (fun r2 her2 => ?_)
  refine s_bind (s_gc fun hg => (s_slices_EqualFunc_api_RouteMap_api_RouteMap_api_RouteMap_api_RouteMap__model_Same_2 a0.fMaps a1.fMaps (L_TRouter.fMaps ha0) (L_TRouter.fMaps ha1))) (fun r3 her3 => ?_)
  refine s_bind (s_gc fun hg => (s_slices_EqualFunc_api_ACL_api_ACL_api_ACL_api_ACL__model_Same_3 a0.fACLs a1.fACLs (L_TRouter.fACLs ha0) (L_TRouter.fACLs ha1))) (fun r4 her4 => ?_)
  refine s_bind (s_gc fun hg => (s_slices_Equal_api_Translation_api_Translation a0.fNAT a1.fNAT (L_TRouter.fNAT ha0) (L_TRouter.fNAT ha1))) (fun r5 her5 => ?_)
  refine s_bind (s_gc fun hg => (s_slices_Equal_api_StaticRoute_api_StaticRoute a0.fStatics a1.fStatics (L_TRouter.fStatics ha0) (L_TRouter.fStatics ha1))) (fun r6 her6 => ?_)
  refine s_bind (s_gc fun hg => (s_model_sameLinkState a0.fLS a1.fLS (L_TRouter.fLS ha0) (L_TRouter.fLS ha1))) (fun r7 her7 => ?_)
  refine s_bind (s_gc fun hg => (s_model_sameDistanceVector a0.fDV a1.fDV (L_TRouter.fDV ha0) (L_TRouter.fDV ha1))) (fun r8 her8 => ?_)
  refine s_bind (s_gc fun hg => (s_model_samePathVector a0.fPV a1.fPV (L_TRouter.fPV ha0) (L_TRouter.fPV ha1))) (fun r9 her9 => ?_)
  rfl
noncomputable def S.law5_sane  : Bool :=
  letS (S.law5_sample) (fun r1 => letS (S.model_CheckRouter r1) (fun r2 => letS (bif (r2 == 0) then S.model_CheckRouter (⟨(⟨#[49, 114]⟩ : ByteArray), r1.fAS, r1.fInterfaces, r1.fLists, r1.fMaps, r1.fACLs, r1.fNAT, r1.fStatics, r1.fLS, r1.fDV, r1.fPV⟩ : TRouter) else default) (fun r3 => letS (bif ((r2 == 0) && (r3 == 3)) then S.law5_sample else default) (fun r4 => letS (bif ((r2 == 0) && (r3 == 3)) then S.model_Same r1 r4 else default) (fun r5 => letS (bif (((r2 == 0) && (r3 == 3)) && r5) then S.model_Same r1 (⟨(⟨#[49, 114]⟩ : ByteArray), r1.fAS, r1.fInterfaces, r1.fLists, r1.fMaps, r1.fACLs, r1.fNAT, r1.fStatics, r1.fLS, r1.fDV, r1.fPV⟩ : TRouter) else default) (fun r6 => letS (bif ((((r2 == 0) && (r3 == 3)) && r5) && (!r6)) then S.model_Interface r1 (⟨#[101, 49]⟩ : ByteArray) else default) (fun r7 => letS (bif (((((r2 == 0) && (r3 == 3)) && r5) && (!r6)) && (r7 == 1)) then S.model_Address r1 167772417 else default) (fun r8 => (((((r2 == 0) && (r3 == 3)) && r5) && (!r6)) && (r7 == 1)) && (r8 == 1)))))))))
theorem s_law5_sane   : M.law5_sane  = some (S.law5_sane ) := by
  have hM := maxLen_eq
  unfold M.law5_sane S.law5_sane
  refine s_bind (s_law5_sample) (fun r1 her1 => ?_)
  have hLr1 : L_TRouter r1 := by rw [her1]; exact Lres_law5_sample
  refine s_bind (s_model_CheckRouter r1 hLr1) (fun r2 her2 => ?_)
  refine s_bind (s_gc fun hg => (s_model_CheckRouter (⟨(⟨#[49, 114]⟩ : ByteArray), r1.fAS, r1.fInterfaces, r1.fLists, r1.fMaps, r1.fACLs, r1.fNAT, r1.fStatics, r1.fLS, r1.fDV, r1.fPV⟩ : TRouter) ⟨(Nat.le_of_ble_eq_true rfl), (L_TRouter.fInterfaces (x := r1) hLr1), (L_TRouter.fLists (x := r1) hLr1), (L_TRouter.fMaps (x := r1) hLr1), (L_TRouter.fACLs (x := r1) hLr1), (L_TRouter.fNAT (x := r1) hLr1), (L_TRouter.fStatics (x := r1) hLr1), (L_TRouter.fLS (x := r1) hLr1), (L_TRouter.fDV (x := r1) hLr1), (L_TRouter.fPV (x := r1) hLr1)⟩)) (fun r3 her3 => ?_)
  refine s_bind (s_gc fun hg => (s_law5_sample)) (fun r4 her4 => ?_)
  have hLr4 : L_TRouter r4 := by rw [her4]; exact cond_ind (p := L_TRouter) Lres_law5_sample L_TRouter.dflt
  refine s_bind (s_gc fun hg => (s_model_Same r1 r4 hLr1 hLr4)) (fun r5 her5 => ?_)
  refine s_bind (s_gc fun hg => (s_model_Same r1 (⟨(⟨#[49, 114]⟩ : ByteArray), r1.fAS, r1.fInterfaces, r1.fLists, r1.fMaps, r1.fACLs, r1.fNAT, r1.fStatics, r1.fLS, r1.fDV, r1.fPV⟩ : TRouter) hLr1 ⟨(Nat.le_of_ble_eq_true rfl), (L_TRouter.fInterfaces (x := r1) hLr1), (L_TRouter.fLists (x := r1) hLr1), (L_TRouter.fMaps (x := r1) hLr1), (L_TRouter.fACLs (x := r1) hLr1), (L_TRouter.fNAT (x := r1) hLr1), (L_TRouter.fStatics (x := r1) hLr1), (L_TRouter.fLS (x := r1) hLr1), (L_TRouter.fDV (x := r1) hLr1), (L_TRouter.fPV (x := r1) hLr1)⟩)) (fun r6 her6 => ?_)
  refine s_bind (s_gc fun hg => (s_model_Interface r1 (⟨#[101, 49]⟩ : ByteArray) hLr1 (Nat.le_of_ble_eq_true rfl))) (fun r7 her7 => ?_)
  have hrr7 := rng_model_Interface r1 (⟨#[101, 49]⟩ : ByteArray)
  refine s_bind (s_gc fun hg => (s_model_Address r1 167772417 hLr1)) (fun r8 her8 => ?_)
  rfl
end Nv
