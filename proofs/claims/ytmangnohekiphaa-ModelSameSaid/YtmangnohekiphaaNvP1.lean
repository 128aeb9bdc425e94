/- The plain law of ModelSame: Same is equality. -/
import Derived.Test.YtmangnohekiphaaNvT1
import Derived.Test.YtmangnohekiphaaNvLW
import Derived.Test.YtmangnohekiphaaNvRun
import Derived.Test.YtmangnohekiphaaNvS1
set_option maxRecDepth 100000
set_option synthInstance.maxSize 100000
set_option synthInstance.maxHeartbeats 1000000
set_option maxHeartbeats 1000000
namespace Nv
open Go

theorem ba_loop (bs : ByteArray) : ∀ (k i : Nat) (r : List UInt8), bs.size - i = k → ByteArray.toList.loop bs i r = r.reverse ++ bs.data.toList.drop i := by
  intro k
  induction k with
  | zero =>
    intro i r h
    have hz : bs.data.toList.length ≤ i := by
      have : bs.size = bs.data.size := rfl
      simp; omega
    unfold ByteArray.toList.loop
    rw [if_neg (by omega), List.drop_eq_nil_of_le hz, List.append_nil]
  | succ k ih =>
    intro i r h
    have hlt : i < bs.size := by omega
    unfold ByteArray.toList.loop
    rw [if_pos hlt, ih (i + 1) _ (by omega)]
    have hl : i < bs.data.toList.length := by
      have : bs.size = bs.data.size := rfl
      simp; omega
    rw [List.drop_eq_getElem_cons hl, List.reverse_cons, List.append_assoc]
    congr 1
    have e : bs.get! i = bs.data.toList[i] := by
      have : bs.get! i = bs.data[i]! := by cases bs; rfl
      rw [this, getElem!_pos _ _ (by simpa using hl)]
      simp
    rw [e]
    rfl
theorem ba_inj {a b : ByteArray} (h : a.toList = b.toList) : a = b := by
  unfold ByteArray.toList at h
  rw [ba_loop a _ 0 [] rfl, ba_loop b _ 0 [] rfl] at h
  simp only [List.reverse_nil, List.nil_append, List.drop_zero] at h
  cases a; cases b
  congr 1
  exact Array.toList_inj.1 h
theorem strEq_iff {a b : ByteArray} : strEq a b = true ↔ a = b := by
  unfold strEq
  rw [beq_iff_eq]
  exact ⟨ba_inj, fun h => by rw [h]⟩

theorem ext_getD {α : Type} [Inhabited α] {l m : List α} (hl : l.length = m.length) (h : ∀ i, i < l.length → l.getD i default = m.getD i default) : l = m := by
  refine List.ext_getElem hl fun i h1 h2 => ?_
  have := h i h1
  simpa [h1, h2] using this
theorem eq_any {α : Type} [Inhabited α] {l m : List α} {c : Nat → Bool} (h : ∀ i, c i = false ↔ l.getD i default = m.getD i default) (hl : l.length = m.length) : anyN c l.length = false ↔ l = m := by
  rw [anyN_false]
  constructor
  · intro k; exact ext_getD hl fun i hi => (h i).1 (k i hi)
  · rintro rfl; intro j _; exact (h j).2 rfl
theorem len_ne {α : Type} {l m : List α} : ((l.length : Int) != (m.length : Int)) = false ↔ l.length = m.length := by
  rw [bne_eq_false_iff_eq]; omega
theorem eq_fun {α : Type} [Inhabited α] {l m : List α} {c : Nat → Bool} (h : ∀ i, c i = false ↔ l.getD i default = m.getD i default) :
    (bif (l.length : Int) != (m.length : Int) then false else Sum.elim (fun _ => true) (fun y => y) (runN (fun i => bif c i then some (.inr false) else none) (.inl () : Unit ⊕ Bool) 0 l.length)) = true ↔ l = m := by
  rw [runN_any]
  have e : (bif (l.length : Int) != (m.length : Int) then false else Sum.elim (fun _ => true) (fun y => y) (bif anyN c l.length then .inr false else (.inl () : Unit ⊕ Bool))) = (!((l.length : Int) != (m.length : Int)) && !anyN c l.length) := by
    cases ((l.length : Int) != (m.length : Int)) <;> cases anyN c l.length <;> rfl
  rw [e, Bool.and_eq_true, Bool.not_eq_true', Bool.not_eq_true', len_ne]
  constructor
  · rintro ⟨h1, h2⟩; exact (eq_any h h1).1 h2
  · rintro rfl; exact ⟨rfl, (eq_any h rfl).2 rfl⟩
theorem and_bif {a b : Bool} : (a && (bif a then b else default)) = (a && b) := by cases a <;> rfl
theorem prefix_iff {p q : TPrefix} : p = q ↔ p.fAddr = q.fAddr ∧ p.fLen = q.fLen := by
  cases p; cases q; simp
theorem wild_iff {p q : TWildcard} : p = q ↔ p.fAddr = q.fAddr ∧ p.fMask = q.fMask := by
  cases p; cases q; simp
theorem port_iff {p q : TPortRange} : p = q ↔ p.fLo = q.fLo ∧ p.fHi = q.fHi := by
  cases p; cases q; simp

def e_Prefix (x y : TPrefix) : Bool := (((x.fAddr) == (y.fAddr)) && (((x.fLen) == (y.fLen)) && true))
theorem x_Prefix {x y : TPrefix} : e_Prefix x y = true ↔ x = y := by
  cases x; cases y
  simp [e_Prefix, strEq_iff, prefix_iff, wild_iff, port_iff, and_assoc]
theorem q_Prefix (l m : List TPrefix) : S.slices_Equal_api_Prefix_api_Prefix l m = true ↔ l = m :=
  eq_fun (c := fun i => !e_Prefix (l.getD i default) (m.getD i default)) fun i => by rw [Bool.not_eq_false']; exact x_Prefix
def e_Interface (x y : TInterface) : Bool := (strEq (x.fName) (y.fName) && (((x.fAddr) == (y.fAddr)) && (((x.fLen) == (y.fLen)) && (((x.fVLAN) == (y.fVLAN)) && (((x.fDown) == (y.fDown)) && (((x.fLS) == (y.fLS)) && (((x.fArea) == (y.fArea)) && (((x.fCost) == (y.fCost)) && (((x.fDV) == (y.fDV)) && (strEq (x.fIn) (y.fIn) && (strEq (x.fOut) (y.fOut) && (((x.fSide) == (y.fSide)) && true))))))))))))
theorem x_Interface {x y : TInterface} : e_Interface x y = true ↔ x = y := by
  cases x; cases y
  simp [e_Interface, strEq_iff, prefix_iff, wild_iff, port_iff, and_assoc]
theorem q_Interface (l m : List TInterface) : S.slices_Equal_api_Interface_api_Interface l m = true ↔ l = m :=
  eq_fun (c := fun i => !e_Interface (l.getD i default) (m.getD i default)) fun i => by rw [Bool.not_eq_false']; exact x_Interface
def e_PrefixRule (x y : TPrefixRule) : Bool := (((x.fPermit) == (y.fPermit)) && (((((x.fPrefix).fAddr) == ((y.fPrefix).fAddr)) && ((((x.fPrefix).fLen) == ((y.fPrefix).fLen)) && true)) && (((x.fMin) == (y.fMin)) && (((x.fMax) == (y.fMax)) && true))))
theorem x_PrefixRule {x y : TPrefixRule} : e_PrefixRule x y = true ↔ x = y := by
  cases x; cases y
  simp [e_PrefixRule, strEq_iff, prefix_iff, wild_iff, port_iff, and_assoc]
theorem q_PrefixRule (l m : List TPrefixRule) : S.slices_Equal_api_PrefixRule_api_PrefixRule l m = true ↔ l = m :=
  eq_fun (c := fun i => !e_PrefixRule (l.getD i default) (m.getD i default)) fun i => by rw [Bool.not_eq_false']; exact x_PrefixRule
def e_Clause (x y : TClause) : Bool := (((x.fPermit) == (y.fPermit)) && (strEq (x.fList) (y.fList) && (((x.fTag) == (y.fTag)) && (((x.fSetMetric) == (y.fSetMetric)) && (((x.fSetTag) == (y.fSetTag)) && (((x.fSetPref) == (y.fSetPref)) && (((x.fPrepend) == (y.fPrepend)) && true)))))))
theorem x_Clause {x y : TClause} : e_Clause x y = true ↔ x = y := by
  cases x; cases y
  simp [e_Clause, strEq_iff, prefix_iff, wild_iff, port_iff, and_assoc]
theorem q_Clause (l m : List TClause) : S.slices_Equal_api_Clause_api_Clause l m = true ↔ l = m :=
  eq_fun (c := fun i => !e_Clause (l.getD i default) (m.getD i default)) fun i => by rw [Bool.not_eq_false']; exact x_Clause
def e_Rule (x y : TRule) : Bool := (((x.fPermit) == (y.fPermit)) && (((x.fProto) == (y.fProto)) && (((((x.fSrc).fAddr) == ((y.fSrc).fAddr)) && ((((x.fSrc).fMask) == ((y.fSrc).fMask)) && true)) && (((((x.fDst).fAddr) == ((y.fDst).fAddr)) && ((((x.fDst).fMask) == ((y.fDst).fMask)) && true)) && (((((x.fSrcPorts).fLo) == ((y.fSrcPorts).fLo)) && ((((x.fSrcPorts).fHi) == ((y.fSrcPorts).fHi)) && true)) && (((((x.fDstPorts).fLo) == ((y.fDstPorts).fLo)) && ((((x.fDstPorts).fHi) == ((y.fDstPorts).fHi)) && true)) && true))))))
theorem x_Rule {x y : TRule} : e_Rule x y = true ↔ x = y := by
  cases x; cases y
  simp [e_Rule, strEq_iff, prefix_iff, wild_iff, port_iff, and_assoc]
theorem q_Rule (l m : List TRule) : S.slices_Equal_api_Rule_api_Rule l m = true ↔ l = m :=
  eq_fun (c := fun i => !e_Rule (l.getD i default) (m.getD i default)) fun i => by rw [Bool.not_eq_false']; exact x_Rule
def e_Translation (x y : TTranslation) : Bool := (((x.fKind) == (y.fKind)) && (((x.fInside) == (y.fInside)) && (((x.fOutside) == (y.fOutside)) && (((x.fProto) == (y.fProto)) && (((x.fInsidePort) == (y.fInsidePort)) && (((x.fOutsidePort) == (y.fOutsidePort)) && (strEq (x.fList) (y.fList) && (((x.fLo) == (y.fLo)) && (((x.fHi) == (y.fHi)) && true)))))))))
theorem x_Translation {x y : TTranslation} : e_Translation x y = true ↔ x = y := by
  cases x; cases y
  simp [e_Translation, strEq_iff, prefix_iff, wild_iff, port_iff, and_assoc]
theorem q_Translation (l m : List TTranslation) : S.slices_Equal_api_Translation_api_Translation l m = true ↔ l = m :=
  eq_fun (c := fun i => !e_Translation (l.getD i default) (m.getD i default)) fun i => by rw [Bool.not_eq_false']; exact x_Translation
def e_StaticRoute (x y : TStaticRoute) : Bool := (((((x.fPrefix).fAddr) == ((y.fPrefix).fAddr)) && ((((x.fPrefix).fLen) == ((y.fPrefix).fLen)) && true)) && (((x.fNext) == (y.fNext)) && (strEq (x.fIface) (y.fIface) && (((x.fDiscard) == (y.fDiscard)) && (((x.fAdmin) == (y.fAdmin)) && (((x.fTag) == (y.fTag)) && true))))))
theorem x_StaticRoute {x y : TStaticRoute} : e_StaticRoute x y = true ↔ x = y := by
  cases x; cases y
  simp [e_StaticRoute, strEq_iff, prefix_iff, wild_iff, port_iff, and_assoc]
theorem q_StaticRoute (l m : List TStaticRoute) : S.slices_Equal_api_StaticRoute_api_StaticRoute l m = true ↔ l = m :=
  eq_fun (c := fun i => !e_StaticRoute (l.getD i default) (m.getD i default)) fun i => by rw [Bool.not_eq_false']; exact x_StaticRoute
def e_AreaRange (x y : TAreaRange) : Bool := (((x.fArea) == (y.fArea)) && (((((x.fPrefix).fAddr) == ((y.fPrefix).fAddr)) && ((((x.fPrefix).fLen) == ((y.fPrefix).fLen)) && true)) && true))
theorem x_AreaRange {x y : TAreaRange} : e_AreaRange x y = true ↔ x = y := by
  cases x; cases y
  simp [e_AreaRange, strEq_iff, prefix_iff, wild_iff, port_iff, and_assoc]
theorem q_AreaRange (l m : List TAreaRange) : S.slices_Equal_api_AreaRange_api_AreaRange l m = true ↔ l = m :=
  eq_fun (c := fun i => !e_AreaRange (l.getD i default) (m.getD i default)) fun i => by rw [Bool.not_eq_false']; exact x_AreaRange
def e_Redist (x y : TRedist) : Bool := (((x.fFrom) == (y.fFrom)) && (((x.fMetric) == (y.fMetric)) && (((x.fTag) == (y.fTag)) && (strEq (x.fMap) (y.fMap) && (((x.fType) == (y.fType)) && true)))))
theorem x_Redist {x y : TRedist} : e_Redist x y = true ↔ x = y := by
  cases x; cases y
  simp [e_Redist, strEq_iff, prefix_iff, wild_iff, port_iff, and_assoc]
theorem q_Redist (l m : List TRedist) : S.slices_Equal_api_Redist_api_Redist l m = true ↔ l = m :=
  eq_fun (c := fun i => !e_Redist (l.getD i default) (m.getD i default)) fun i => by rw [Bool.not_eq_false']; exact x_Redist
def e_Neighbor (x y : TNeighbor) : Bool := (((x.fAddr) == (y.fAddr)) && (((x.fAS) == (y.fAS)) && (strEq (x.fIn) (y.fIn) && (strEq (x.fOut) (y.fOut) && true))))
theorem x_Neighbor {x y : TNeighbor} : e_Neighbor x y = true ↔ x = y := by
  cases x; cases y
  simp [e_Neighbor, strEq_iff, prefix_iff, wild_iff, port_iff, and_assoc]
theorem q_Neighbor (l m : List TNeighbor) : S.slices_Equal_api_Neighbor_api_Neighbor l m = true ↔ l = m :=
  eq_fun (c := fun i => !e_Neighbor (l.getD i default) (m.getD i default)) fun i => by rw [Bool.not_eq_false']; exact x_Neighbor
def e_Aggregate (x y : TAggregate) : Bool := (((((x.fPrefix).fAddr) == ((y.fPrefix).fAddr)) && ((((x.fPrefix).fLen) == ((y.fPrefix).fLen)) && true)) && (((x.fOnly) == (y.fOnly)) && true))
theorem x_Aggregate {x y : TAggregate} : e_Aggregate x y = true ↔ x = y := by
  cases x; cases y
  simp [e_Aggregate, strEq_iff, prefix_iff, wild_iff, port_iff, and_assoc]
theorem q_Aggregate (l m : List TAggregate) : S.slices_Equal_api_Aggregate_api_Aggregate l m = true ↔ l = m :=
  eq_fun (c := fun i => !e_Aggregate (l.getD i default) (m.getD i default)) fun i => by rw [Bool.not_eq_false']; exact x_Aggregate
def e_Condition (x y : TCondition) : Bool := (((((x.fPrefix).fAddr) == ((y.fPrefix).fAddr)) && ((((x.fPrefix).fLen) == ((y.fPrefix).fLen)) && true)) && (((((x.fIf).fAddr) == ((y.fIf).fAddr)) && ((((x.fIf).fLen) == ((y.fIf).fLen)) && true)) && (((x.fAbsent) == (y.fAbsent)) && true)))
theorem x_Condition {x y : TCondition} : e_Condition x y = true ↔ x = y := by
  cases x; cases y
  simp [e_Condition, strEq_iff, prefix_iff, wild_iff, port_iff, and_assoc]
theorem q_Condition (l m : List TCondition) : S.slices_Equal_api_Condition_api_Condition l m = true ↔ l = m :=
  eq_fun (c := fun i => !e_Condition (l.getD i default) (m.getD i default)) fun i => by rw [Bool.not_eq_false']; exact x_Condition
theorem s_PrefixList {x y : TPrefixList} : S.model_Same_1 x y = true ↔ x = y := by
  unfold S.model_Same_1
  simp only [letS, and_bif, Bool.and_eq_true, strEq_iff, q_PrefixRule]
  cases x; cases y; simp
theorem q_PrefixList (l m : List TPrefixList) : S.slices_EqualFunc_api_PrefixList_api_PrefixList_api_PrefixList_api_PrefixList__model_Same_1 l m = true ↔ l = m :=
  eq_fun (c := fun i => !S.model_Same_1 (l.getD i default) (m.getD i default)) fun i => by rw [Bool.not_eq_false']; exact s_PrefixList
theorem s_RouteMap {x y : TRouteMap} : S.model_Same_2 x y = true ↔ x = y := by
  unfold S.model_Same_2
  simp only [letS, and_bif, Bool.and_eq_true, strEq_iff, q_Clause]
  cases x; cases y; simp
theorem q_RouteMap (l m : List TRouteMap) : S.slices_EqualFunc_api_RouteMap_api_RouteMap_api_RouteMap_api_RouteMap__model_Same_2 l m = true ↔ l = m :=
  eq_fun (c := fun i => !S.model_Same_2 (l.getD i default) (m.getD i default)) fun i => by rw [Bool.not_eq_false']; exact s_RouteMap
theorem s_ACL {x y : TACL} : S.model_Same_3 x y = true ↔ x = y := by
  unfold S.model_Same_3
  simp only [letS, and_bif, Bool.and_eq_true, strEq_iff, q_Rule]
  cases x; cases y; simp
theorem q_ACL (l m : List TACL) : S.slices_EqualFunc_api_ACL_api_ACL_api_ACL_api_ACL__model_Same_3 l m = true ↔ l = m :=
  eq_fun (c := fun i => !S.model_Same_3 (l.getD i default) (m.getD i default)) fun i => by rw [Bool.not_eq_false']; exact s_ACL
theorem m_sameLinkState (x y : TLinkState) : S.model_sameLinkState x y = true ↔ x = y := by
  unfold S.model_sameLinkState
  simp only [letS, and_bif, Bool.and_eq_true, beq_iff_eq, strEq_iff, q_Prefix, q_Interface, q_PrefixRule, q_Clause, q_Rule, q_Translation, q_StaticRoute, q_AreaRange, q_Redist, q_Neighbor, q_Aggregate, q_Condition, q_PrefixList, q_RouteMap, q_ACL]
  cases x; cases y; simp [and_assoc]
theorem m_sameDistanceVector (x y : TDistanceVector) : S.model_sameDistanceVector x y = true ↔ x = y := by
  unfold S.model_sameDistanceVector
  simp only [letS, and_bif, Bool.and_eq_true, beq_iff_eq, strEq_iff, q_Prefix, q_Interface, q_PrefixRule, q_Clause, q_Rule, q_Translation, q_StaticRoute, q_AreaRange, q_Redist, q_Neighbor, q_Aggregate, q_Condition, q_PrefixList, q_RouteMap, q_ACL, m_sameLinkState]
  cases x; cases y; simp [and_assoc]
theorem m_samePathVector (x y : TPathVector) : S.model_samePathVector x y = true ↔ x = y := by
  unfold S.model_samePathVector
  simp only [letS, and_bif, Bool.and_eq_true, beq_iff_eq, strEq_iff, q_Prefix, q_Interface, q_PrefixRule, q_Clause, q_Rule, q_Translation, q_StaticRoute, q_AreaRange, q_Redist, q_Neighbor, q_Aggregate, q_Condition, q_PrefixList, q_RouteMap, q_ACL, m_sameLinkState, m_sameDistanceVector]
  cases x; cases y; simp [and_assoc]
theorem m_Same (x y : TRouter) : S.model_Same x y = true ↔ x = y := by
  unfold S.model_Same
  simp only [letS, and_bif, Bool.and_eq_true, beq_iff_eq, strEq_iff, q_Prefix, q_Interface, q_PrefixRule, q_Clause, q_Rule, q_Translation, q_StaticRoute, q_AreaRange, q_Redist, q_Neighbor, q_Aggregate, q_Condition, q_PrefixList, q_RouteMap, q_ACL, m_sameLinkState, m_sameDistanceVector, m_samePathVector]
  cases x; cases y; simp [and_assoc]
theorem r_Redist (a0 a1 : List TRedist) : S.ref8_sameRedist a0 a1 = true ↔ a0 = a1 :=
  eq_fun (c := fun i => !e_Redist (a0.getD i default) (a1.getD i default)) fun i => by rw [Bool.not_eq_false']; exact x_Redist
theorem l_ref8_Same_l1 (a0 a1 : TRouter) : runN (S.ref8_Same_l1 a0 a1) (.inl () : Unit ⊕ Bool) 0 a0.fInterfaces.length = bif anyN (fun i => !e_Interface (a0.fInterfaces.getD i default) (a1.fInterfaces.getD i default)) a0.fInterfaces.length then .inr false else .inl () := runN_any _ _ _ _
theorem c_ref8_Same_l1 {a0 a1 : TRouter} (h : a0.fInterfaces.length = a1.fInterfaces.length) : anyN (fun i => !e_Interface (a0.fInterfaces.getD i default) (a1.fInterfaces.getD i default)) a0.fInterfaces.length = false ↔ a0.fInterfaces = a1.fInterfaces := eq_any (fun i => by rw [Bool.not_eq_false']; exact x_Interface) h
theorem l_ref8_Same_l2 (a0 a1 : TRouter) : runN (S.ref8_Same_l2 a0 a1) (.inl () : Unit ⊕ Bool) 0 a0.fNAT.length = bif anyN (fun i => !e_Translation (a0.fNAT.getD i default) (a1.fNAT.getD i default)) a0.fNAT.length then .inr false else .inl () := runN_any _ _ _ _
theorem c_ref8_Same_l2 {a0 a1 : TRouter} (h : a0.fNAT.length = a1.fNAT.length) : anyN (fun i => !e_Translation (a0.fNAT.getD i default) (a1.fNAT.getD i default)) a0.fNAT.length = false ↔ a0.fNAT = a1.fNAT := eq_any (fun i => by rw [Bool.not_eq_false']; exact x_Translation) h
theorem l_ref8_Same_l3 (a0 a1 : TRouter) : runN (S.ref8_Same_l3 a0 a1) (.inl () : Unit ⊕ Bool) 0 a0.fStatics.length = bif anyN (fun i => !e_StaticRoute (a0.fStatics.getD i default) (a1.fStatics.getD i default)) a0.fStatics.length then .inr false else .inl () := runN_any _ _ _ _
theorem c_ref8_Same_l3 {a0 a1 : TRouter} (h : a0.fStatics.length = a1.fStatics.length) : anyN (fun i => !e_StaticRoute (a0.fStatics.getD i default) (a1.fStatics.getD i default)) a0.fStatics.length = false ↔ a0.fStatics = a1.fStatics := eq_any (fun i => by rw [Bool.not_eq_false']; exact x_StaticRoute) h
theorem l_ref8_sameProtocols_l1 (a0 a1 : TRouter) : runN (S.ref8_sameProtocols_l1 a0 a1) (.inl () : Unit ⊕ Bool) 0 a0.fLS.fRanges.length = bif anyN (fun i => !e_AreaRange (a0.fLS.fRanges.getD i default) (a1.fLS.fRanges.getD i default)) a0.fLS.fRanges.length then .inr false else .inl () := runN_any _ _ _ _
theorem c_ref8_sameProtocols_l1 {a0 a1 : TRouter} (h : a0.fLS.fRanges.length = a1.fLS.fRanges.length) : anyN (fun i => !e_AreaRange (a0.fLS.fRanges.getD i default) (a1.fLS.fRanges.getD i default)) a0.fLS.fRanges.length = false ↔ a0.fLS.fRanges = a1.fLS.fRanges := eq_any (fun i => by rw [Bool.not_eq_false']; exact x_AreaRange) h
theorem l_ref8_sameProtocols_l2 (a0 a1 : TRouter) : runN (S.ref8_sameProtocols_l2 a0 a1) (.inl () : Unit ⊕ Bool) 0 a0.fPV.fNeighbors.length = bif anyN (fun i => !e_Neighbor (a0.fPV.fNeighbors.getD i default) (a1.fPV.fNeighbors.getD i default)) a0.fPV.fNeighbors.length then .inr false else .inl () := runN_any _ _ _ _
theorem c_ref8_sameProtocols_l2 {a0 a1 : TRouter} (h : a0.fPV.fNeighbors.length = a1.fPV.fNeighbors.length) : anyN (fun i => !e_Neighbor (a0.fPV.fNeighbors.getD i default) (a1.fPV.fNeighbors.getD i default)) a0.fPV.fNeighbors.length = false ↔ a0.fPV.fNeighbors = a1.fPV.fNeighbors := eq_any (fun i => by rw [Bool.not_eq_false']; exact x_Neighbor) h
theorem l_ref8_sameProtocols_l3 (a0 a1 : TRouter) : runN (S.ref8_sameProtocols_l3 a0 a1) (.inl () : Unit ⊕ Bool) 0 a0.fPV.fNetworks.length = bif anyN (fun i => !e_Prefix (a0.fPV.fNetworks.getD i default) (a1.fPV.fNetworks.getD i default)) a0.fPV.fNetworks.length then .inr false else .inl () := runN_any _ _ _ _
theorem c_ref8_sameProtocols_l3 {a0 a1 : TRouter} (h : a0.fPV.fNetworks.length = a1.fPV.fNetworks.length) : anyN (fun i => !e_Prefix (a0.fPV.fNetworks.getD i default) (a1.fPV.fNetworks.getD i default)) a0.fPV.fNetworks.length = false ↔ a0.fPV.fNetworks = a1.fPV.fNetworks := eq_any (fun i => by rw [Bool.not_eq_false']; exact x_Prefix) h
theorem l_ref8_sameProtocols_l4 (a0 a1 : TRouter) : runN (S.ref8_sameProtocols_l4 a0 a1) (.inl () : Unit ⊕ Bool) 0 a0.fPV.fAggregates.length = bif anyN (fun i => !e_Aggregate (a0.fPV.fAggregates.getD i default) (a1.fPV.fAggregates.getD i default)) a0.fPV.fAggregates.length then .inr false else .inl () := runN_any _ _ _ _
theorem c_ref8_sameProtocols_l4 {a0 a1 : TRouter} (h : a0.fPV.fAggregates.length = a1.fPV.fAggregates.length) : anyN (fun i => !e_Aggregate (a0.fPV.fAggregates.getD i default) (a1.fPV.fAggregates.getD i default)) a0.fPV.fAggregates.length = false ↔ a0.fPV.fAggregates = a1.fPV.fAggregates := eq_any (fun i => by rw [Bool.not_eq_false']; exact x_Aggregate) h
theorem l_ref8_sameProtocols_l5 (a0 a1 : TRouter) : runN (S.ref8_sameProtocols_l5 a0 a1) (.inl () : Unit ⊕ Bool) 0 a0.fPV.fConditions.length = bif anyN (fun i => !e_Condition (a0.fPV.fConditions.getD i default) (a1.fPV.fConditions.getD i default)) a0.fPV.fConditions.length then .inr false else .inl () := runN_any _ _ _ _
theorem c_ref8_sameProtocols_l5 {a0 a1 : TRouter} (h : a0.fPV.fConditions.length = a1.fPV.fConditions.length) : anyN (fun i => !e_Condition (a0.fPV.fConditions.getD i default) (a1.fPV.fConditions.getD i default)) a0.fPV.fConditions.length = false ↔ a0.fPV.fConditions = a1.fPV.fConditions := eq_any (fun i => by rw [Bool.not_eq_false']; exact x_Condition) h
theorem l_ref8_sameLists_l1 (a0 a1 : TRouter) : runN (S.ref8_sameLists_l1 a0 a1) (.inl () : Unit ⊕ Bool) 0 a0.fLists.length = bif anyN (fun i => ((!strEq (a0.fLists.getD i default).fName (a1.fLists.getD i default).fName) || (((a0.fLists.getD i default).fRules.length : Int) != ((a1.fLists.getD i default).fRules.length : Int))) || anyN (fun j => !e_PrefixRule ((a0.fLists.getD i default).fRules.getD j default) ((a1.fLists.getD i default).fRules.getD j default)) (a0.fLists.getD i default).fRules.length) a0.fLists.length then .inr false else .inl () := by
  rw [← runN_any]
  refine runN_congr0 fun i _ => ?_
  unfold S.ref8_sameLists_l1
  simp only [letS]
  rw [show runN (S.ref8_sameLists_l2 a0 a1 i) (.inl () : Unit ⊕ Bool) 0 (a0.fLists.getD i default).fRules.length = bif anyN (fun j => !e_PrefixRule ((a0.fLists.getD i default).fRules.getD j default) ((a1.fLists.getD i default).fRules.getD j default)) (a0.fLists.getD i default).fRules.length then .inr false else .inl () from runN_any _ _ _ _]
  cases ((!strEq (a0.fLists.getD i default).fName (a1.fLists.getD i default).fName) || (((a0.fLists.getD i default).fRules.length : Int) != ((a1.fLists.getD i default).fRules.length : Int))) <;> cases anyN (fun j => !e_PrefixRule ((a0.fLists.getD i default).fRules.getD j default) ((a1.fLists.getD i default).fRules.getD j default)) (a0.fLists.getD i default).fRules.length <;> rfl
theorem c_ref8_sameLists_l1 {a0 a1 : TRouter} (h : a0.fLists.length = a1.fLists.length) : anyN (fun i => ((!strEq (a0.fLists.getD i default).fName (a1.fLists.getD i default).fName) || (((a0.fLists.getD i default).fRules.length : Int) != ((a1.fLists.getD i default).fRules.length : Int))) || anyN (fun j => !e_PrefixRule ((a0.fLists.getD i default).fRules.getD j default) ((a1.fLists.getD i default).fRules.getD j default)) (a0.fLists.getD i default).fRules.length) a0.fLists.length = false ↔ a0.fLists = a1.fLists := by
  refine eq_any (fun i => ?_) h
  generalize a0.fLists.getD i default = x
  generalize a1.fLists.getD i default = y
  rw [Bool.or_eq_false_iff, Bool.or_eq_false_iff, Bool.not_eq_false', strEq_iff, len_ne]
  have k : x.fRules.length = y.fRules.length → (anyN (fun j => !e_PrefixRule (x.fRules.getD j default) (y.fRules.getD j default)) x.fRules.length = false ↔ x.fRules = y.fRules) := fun h => eq_any (fun i => by rw [Bool.not_eq_false']; exact x_PrefixRule) h
  constructor
  · rintro ⟨⟨h1, h2⟩, h3⟩
    have h4 := (k h2).1 h3
    cases x; cases y
    simp only at h1 h4
    subst h1 h4; rfl
  · rintro rfl
    exact ⟨⟨rfl, rfl⟩, (k rfl).2 rfl⟩
theorem l_ref8_sameLists_l3 (a0 a1 : TRouter) : runN (S.ref8_sameLists_l3 a0 a1) (.inl () : Unit ⊕ Bool) 0 a0.fMaps.length = bif anyN (fun i => ((!strEq (a0.fMaps.getD i default).fName (a1.fMaps.getD i default).fName) || (((a0.fMaps.getD i default).fClauses.length : Int) != ((a1.fMaps.getD i default).fClauses.length : Int))) || anyN (fun j => !e_Clause ((a0.fMaps.getD i default).fClauses.getD j default) ((a1.fMaps.getD i default).fClauses.getD j default)) (a0.fMaps.getD i default).fClauses.length) a0.fMaps.length then .inr false else .inl () := by
  rw [← runN_any]
  refine runN_congr0 fun i _ => ?_
  unfold S.ref8_sameLists_l3
  simp only [letS]
  rw [show runN (S.ref8_sameLists_l4 a0 a1 i) (.inl () : Unit ⊕ Bool) 0 (a0.fMaps.getD i default).fClauses.length = bif anyN (fun j => !e_Clause ((a0.fMaps.getD i default).fClauses.getD j default) ((a1.fMaps.getD i default).fClauses.getD j default)) (a0.fMaps.getD i default).fClauses.length then .inr false else .inl () from runN_any _ _ _ _]
  cases ((!strEq (a0.fMaps.getD i default).fName (a1.fMaps.getD i default).fName) || (((a0.fMaps.getD i default).fClauses.length : Int) != ((a1.fMaps.getD i default).fClauses.length : Int))) <;> cases anyN (fun j => !e_Clause ((a0.fMaps.getD i default).fClauses.getD j default) ((a1.fMaps.getD i default).fClauses.getD j default)) (a0.fMaps.getD i default).fClauses.length <;> rfl
theorem c_ref8_sameLists_l3 {a0 a1 : TRouter} (h : a0.fMaps.length = a1.fMaps.length) : anyN (fun i => ((!strEq (a0.fMaps.getD i default).fName (a1.fMaps.getD i default).fName) || (((a0.fMaps.getD i default).fClauses.length : Int) != ((a1.fMaps.getD i default).fClauses.length : Int))) || anyN (fun j => !e_Clause ((a0.fMaps.getD i default).fClauses.getD j default) ((a1.fMaps.getD i default).fClauses.getD j default)) (a0.fMaps.getD i default).fClauses.length) a0.fMaps.length = false ↔ a0.fMaps = a1.fMaps := by
  refine eq_any (fun i => ?_) h
  generalize a0.fMaps.getD i default = x
  generalize a1.fMaps.getD i default = y
  rw [Bool.or_eq_false_iff, Bool.or_eq_false_iff, Bool.not_eq_false', strEq_iff, len_ne]
  have k : x.fClauses.length = y.fClauses.length → (anyN (fun j => !e_Clause (x.fClauses.getD j default) (y.fClauses.getD j default)) x.fClauses.length = false ↔ x.fClauses = y.fClauses) := fun h => eq_any (fun i => by rw [Bool.not_eq_false']; exact x_Clause) h
  constructor
  · rintro ⟨⟨h1, h2⟩, h3⟩
    have h4 := (k h2).1 h3
    cases x; cases y
    simp only at h1 h4
    subst h1 h4; rfl
  · rintro rfl
    exact ⟨⟨rfl, rfl⟩, (k rfl).2 rfl⟩
theorem l_ref8_sameLists_l5 (a0 a1 : TRouter) : runN (S.ref8_sameLists_l5 a0 a1) (.inl () : Unit ⊕ Bool) 0 a0.fACLs.length = bif anyN (fun i => ((!strEq (a0.fACLs.getD i default).fName (a1.fACLs.getD i default).fName) || (((a0.fACLs.getD i default).fRules.length : Int) != ((a1.fACLs.getD i default).fRules.length : Int))) || anyN (fun j => !e_Rule ((a0.fACLs.getD i default).fRules.getD j default) ((a1.fACLs.getD i default).fRules.getD j default)) (a0.fACLs.getD i default).fRules.length) a0.fACLs.length then .inr false else .inl () := by
  rw [← runN_any]
  refine runN_congr0 fun i _ => ?_
  unfold S.ref8_sameLists_l5
  simp only [letS]
  rw [show runN (S.ref8_sameLists_l6 a0 a1 i) (.inl () : Unit ⊕ Bool) 0 (a0.fACLs.getD i default).fRules.length = bif anyN (fun j => !e_Rule ((a0.fACLs.getD i default).fRules.getD j default) ((a1.fACLs.getD i default).fRules.getD j default)) (a0.fACLs.getD i default).fRules.length then .inr false else .inl () from runN_any _ _ _ _]
  cases ((!strEq (a0.fACLs.getD i default).fName (a1.fACLs.getD i default).fName) || (((a0.fACLs.getD i default).fRules.length : Int) != ((a1.fACLs.getD i default).fRules.length : Int))) <;> cases anyN (fun j => !e_Rule ((a0.fACLs.getD i default).fRules.getD j default) ((a1.fACLs.getD i default).fRules.getD j default)) (a0.fACLs.getD i default).fRules.length <;> rfl
theorem c_ref8_sameLists_l5 {a0 a1 : TRouter} (h : a0.fACLs.length = a1.fACLs.length) : anyN (fun i => ((!strEq (a0.fACLs.getD i default).fName (a1.fACLs.getD i default).fName) || (((a0.fACLs.getD i default).fRules.length : Int) != ((a1.fACLs.getD i default).fRules.length : Int))) || anyN (fun j => !e_Rule ((a0.fACLs.getD i default).fRules.getD j default) ((a1.fACLs.getD i default).fRules.getD j default)) (a0.fACLs.getD i default).fRules.length) a0.fACLs.length = false ↔ a0.fACLs = a1.fACLs := by
  refine eq_any (fun i => ?_) h
  generalize a0.fACLs.getD i default = x
  generalize a1.fACLs.getD i default = y
  rw [Bool.or_eq_false_iff, Bool.or_eq_false_iff, Bool.not_eq_false', strEq_iff, len_ne]
  have k : x.fRules.length = y.fRules.length → (anyN (fun j => !e_Rule (x.fRules.getD j default) (y.fRules.getD j default)) x.fRules.length = false ↔ x.fRules = y.fRules) := fun h => eq_any (fun i => by rw [Bool.not_eq_false']; exact x_Rule) h
  constructor
  · rintro ⟨⟨h1, h2⟩, h3⟩
    have h4 := (k h2).1 h3
    cases x; cases y
    simp only at h1 h4
    subst h1 h4; rfl
  · rintro rfl
    exact ⟨⟨rfl, rfl⟩, (k rfl).2 rfl⟩
theorem e_lists (a0 a1 : TRouter) : S.ref8_sameLists a0 a1 = (!((((a0.fLists.length : Int) != (a1.fLists.length : Int)) || ((a0.fMaps.length : Int) != (a1.fMaps.length : Int))) || ((a0.fACLs.length : Int) != (a1.fACLs.length : Int))) && (!anyN (fun i => ((!strEq (a0.fLists.getD i default).fName (a1.fLists.getD i default).fName) || (((a0.fLists.getD i default).fRules.length : Int) != ((a1.fLists.getD i default).fRules.length : Int))) || anyN (fun j => !e_PrefixRule ((a0.fLists.getD i default).fRules.getD j default) ((a1.fLists.getD i default).fRules.getD j default)) (a0.fLists.getD i default).fRules.length) a0.fLists.length && (!anyN (fun i => ((!strEq (a0.fMaps.getD i default).fName (a1.fMaps.getD i default).fName) || (((a0.fMaps.getD i default).fClauses.length : Int) != ((a1.fMaps.getD i default).fClauses.length : Int))) || anyN (fun j => !e_Clause ((a0.fMaps.getD i default).fClauses.getD j default) ((a1.fMaps.getD i default).fClauses.getD j default)) (a0.fMaps.getD i default).fClauses.length) a0.fMaps.length && !anyN (fun i => ((!strEq (a0.fACLs.getD i default).fName (a1.fACLs.getD i default).fName) || (((a0.fACLs.getD i default).fRules.length : Int) != ((a1.fACLs.getD i default).fRules.length : Int))) || anyN (fun j => !e_Rule ((a0.fACLs.getD i default).fRules.getD j default) ((a1.fACLs.getD i default).fRules.getD j default)) (a0.fACLs.getD i default).fRules.length) a0.fACLs.length))) := by
  unfold S.ref8_sameLists
  simp only [letS]
  rw [l_ref8_sameLists_l1, l_ref8_sameLists_l3, l_ref8_sameLists_l5]
  generalize ((((a0.fLists.length : Int) != (a1.fLists.length : Int)) || ((a0.fMaps.length : Int) != (a1.fMaps.length : Int))) || ((a0.fACLs.length : Int) != (a1.fACLs.length : Int))) = q1
  generalize (anyN (fun i => ((!strEq (a0.fLists.getD i default).fName (a1.fLists.getD i default).fName) || (((a0.fLists.getD i default).fRules.length : Int) != ((a1.fLists.getD i default).fRules.length : Int))) || anyN (fun j => !e_PrefixRule ((a0.fLists.getD i default).fRules.getD j default) ((a1.fLists.getD i default).fRules.getD j default)) (a0.fLists.getD i default).fRules.length) a0.fLists.length) = q2
  generalize (anyN (fun i => ((!strEq (a0.fMaps.getD i default).fName (a1.fMaps.getD i default).fName) || (((a0.fMaps.getD i default).fClauses.length : Int) != ((a1.fMaps.getD i default).fClauses.length : Int))) || anyN (fun j => !e_Clause ((a0.fMaps.getD i default).fClauses.getD j default) ((a1.fMaps.getD i default).fClauses.getD j default)) (a0.fMaps.getD i default).fClauses.length) a0.fMaps.length) = q3
  generalize (anyN (fun i => ((!strEq (a0.fACLs.getD i default).fName (a1.fACLs.getD i default).fName) || (((a0.fACLs.getD i default).fRules.length : Int) != ((a1.fACLs.getD i default).fRules.length : Int))) || anyN (fun j => !e_Rule ((a0.fACLs.getD i default).fRules.getD j default) ((a1.fACLs.getD i default).fRules.getD j default)) (a0.fACLs.getD i default).fRules.length) a0.fACLs.length) = q4
  revert q1 q2 q3 q4
  decide +kernel
theorem r_lists (a0 a1 : TRouter) : S.ref8_sameLists a0 a1 = true ↔ a0.fLists = a1.fLists ∧ a0.fMaps = a1.fMaps ∧ a0.fACLs = a1.fACLs := by
  rw [e_lists]
  simp only [Bool.and_eq_true, Bool.not_eq_true', Bool.or_eq_false_iff, len_ne]
  constructor
  · rintro ⟨⟨⟨h1, h2⟩, h3⟩, h4, h5, h6⟩
    exact ⟨(c_ref8_sameLists_l1 h1).1 h4, (c_ref8_sameLists_l3 h2).1 h5, (c_ref8_sameLists_l5 h3).1 h6⟩
  · rintro ⟨h1, h2, h3⟩
    exact ⟨⟨⟨by rw [h1], by rw [h2]⟩, by rw [h3]⟩, (c_ref8_sameLists_l1 (by rw [h1])).2 h1, (c_ref8_sameLists_l3 (by rw [h2])).2 h2, (c_ref8_sameLists_l5 (by rw [h3])).2 h3⟩
theorem e_prot (a0 a1 : TRouter) : S.ref8_sameProtocols a0 a1 = ((!(((!(a0.fLS.fOn == a1.fLS.fOn)) || (a0.fLS.fAdmin != a1.fLS.fAdmin)) || ((a0.fLS.fRanges.length : Int) != (a1.fLS.fRanges.length : Int))) && S.ref8_sameRedist a0.fLS.fRedist a1.fLS.fRedist) && (!anyN (fun i => !e_AreaRange (a0.fLS.fRanges.getD i default) (a1.fLS.fRanges.getD i default)) a0.fLS.fRanges.length && ((!((((!(a0.fDV.fOn == a1.fDV.fOn)) || (a0.fDV.fAdmin != a1.fDV.fAdmin)) || (!strEq a0.fDV.fIn a1.fDV.fIn)) || (!strEq a0.fDV.fOut a1.fDV.fOut)) && S.ref8_sameRedist a0.fDV.fRedist a1.fDV.fRedist) && ((!(((((((!(a0.fPV.fOn == a1.fPV.fOn)) || (a0.fPV.fExternal != a1.fPV.fExternal)) || (a0.fPV.fInternal != a1.fPV.fInternal)) || ((a0.fPV.fNeighbors.length : Int) != (a1.fPV.fNeighbors.length : Int))) || ((a0.fPV.fNetworks.length : Int) != (a1.fPV.fNetworks.length : Int))) || ((a0.fPV.fAggregates.length : Int) != (a1.fPV.fAggregates.length : Int))) || ((a0.fPV.fConditions.length : Int) != (a1.fPV.fConditions.length : Int))) && S.ref8_sameRedist a0.fPV.fRedist a1.fPV.fRedist) && (!anyN (fun i => !e_Neighbor (a0.fPV.fNeighbors.getD i default) (a1.fPV.fNeighbors.getD i default)) a0.fPV.fNeighbors.length && (!anyN (fun i => !e_Prefix (a0.fPV.fNetworks.getD i default) (a1.fPV.fNetworks.getD i default)) a0.fPV.fNetworks.length && (!anyN (fun i => !e_Aggregate (a0.fPV.fAggregates.getD i default) (a1.fPV.fAggregates.getD i default)) a0.fPV.fAggregates.length && !anyN (fun i => !e_Condition (a0.fPV.fConditions.getD i default) (a1.fPV.fConditions.getD i default)) a0.fPV.fConditions.length))))))) := by
  unfold S.ref8_sameProtocols
  simp only [letS]
  rw [l_ref8_sameProtocols_l1, l_ref8_sameProtocols_l2, l_ref8_sameProtocols_l3, l_ref8_sameProtocols_l4, l_ref8_sameProtocols_l5]
  generalize (((!(a0.fLS.fOn == a1.fLS.fOn)) || (a0.fLS.fAdmin != a1.fLS.fAdmin)) || ((a0.fLS.fRanges.length : Int) != (a1.fLS.fRanges.length : Int))) = q1
  generalize ((((!(a0.fDV.fOn == a1.fDV.fOn)) || (a0.fDV.fAdmin != a1.fDV.fAdmin)) || (!strEq a0.fDV.fIn a1.fDV.fIn)) || (!strEq a0.fDV.fOut a1.fDV.fOut)) = q2
  generalize (((((((!(a0.fPV.fOn == a1.fPV.fOn)) || (a0.fPV.fExternal != a1.fPV.fExternal)) || (a0.fPV.fInternal != a1.fPV.fInternal)) || ((a0.fPV.fNeighbors.length : Int) != (a1.fPV.fNeighbors.length : Int))) || ((a0.fPV.fNetworks.length : Int) != (a1.fPV.fNetworks.length : Int))) || ((a0.fPV.fAggregates.length : Int) != (a1.fPV.fAggregates.length : Int))) || ((a0.fPV.fConditions.length : Int) != (a1.fPV.fConditions.length : Int))) = q3
  generalize (S.ref8_sameRedist a0.fLS.fRedist a1.fLS.fRedist) = q4
  generalize (S.ref8_sameRedist a0.fDV.fRedist a1.fDV.fRedist) = q5
  generalize (S.ref8_sameRedist a0.fPV.fRedist a1.fPV.fRedist) = q6
  generalize (anyN (fun i => !e_AreaRange (a0.fLS.fRanges.getD i default) (a1.fLS.fRanges.getD i default)) a0.fLS.fRanges.length) = q7
  generalize (anyN (fun i => !e_Neighbor (a0.fPV.fNeighbors.getD i default) (a1.fPV.fNeighbors.getD i default)) a0.fPV.fNeighbors.length) = q8
  generalize (anyN (fun i => !e_Prefix (a0.fPV.fNetworks.getD i default) (a1.fPV.fNetworks.getD i default)) a0.fPV.fNetworks.length) = q9
  generalize (anyN (fun i => !e_Aggregate (a0.fPV.fAggregates.getD i default) (a1.fPV.fAggregates.getD i default)) a0.fPV.fAggregates.length) = q10
  generalize (anyN (fun i => !e_Condition (a0.fPV.fConditions.getD i default) (a1.fPV.fConditions.getD i default)) a0.fPV.fConditions.length) = q11
  revert q1 q2 q3 q4 q5 q6 q7 q8 q9 q10 q11
  decide +kernel
theorem r_prot (a0 a1 : TRouter) : S.ref8_sameProtocols a0 a1 = true ↔ a0.fLS = a1.fLS ∧ a0.fDV = a1.fDV ∧ a0.fPV = a1.fPV := by
  rw [e_prot]
  simp only [Bool.and_eq_true, Bool.not_eq_true', Bool.or_eq_false_iff, len_ne, Bool.not_eq_false', beq_iff_eq, bne_eq_false_iff_eq, strEq_iff, r_Redist]
  constructor
  · rintro ⟨⟨⟨⟨h1, h2⟩, h3⟩, h4⟩, h5, ⟨⟨⟨⟨h6, h7⟩, h8⟩, h9⟩, h10⟩, ⟨⟨⟨⟨⟨⟨⟨h11, h12⟩, h13⟩, h14⟩, h15⟩, h16⟩, h17⟩, h18⟩, h19, h20, h21, h22⟩
    have k1 := (c_ref8_sameProtocols_l1 (by omega)).1 h5
    have k2 := (c_ref8_sameProtocols_l2 (by omega)).1 h19
    have k3 := (c_ref8_sameProtocols_l3 (by omega)).1 h20
    have k4 := (c_ref8_sameProtocols_l4 (by omega)).1 h21
    have k5 := (c_ref8_sameProtocols_l5 (by omega)).1 h22
    clear h3 h5 h14 h15 h16 h17 h19 h20 h21 h22
    generalize a0.fLS = x1 at *
    generalize a1.fLS = y1 at *
    generalize a0.fDV = x2 at *
    generalize a1.fDV = y2 at *
    generalize a0.fPV = x3 at *
    generalize a1.fPV = y3 at *
    refine ⟨?_, ?_, ?_⟩
    · cases x1; cases y1; simp_all
    · cases x2; cases y2; simp_all
    · cases x3; cases y3; simp_all
  · rintro ⟨h1, h2, h3⟩
    exact ⟨⟨⟨⟨by rw [h1], by rw [h1]⟩, by rw [h1]⟩, by rw [h1]⟩, (c_ref8_sameProtocols_l1 (by rw [h1])).2 (by rw [h1]), ⟨⟨⟨⟨by rw [h2], by rw [h2]⟩, by rw [h2]⟩, by rw [h2]⟩, by rw [h2]⟩, ⟨⟨⟨⟨⟨⟨⟨by rw [h3], by rw [h3]⟩, by rw [h3]⟩, by rw [h3]⟩, by rw [h3]⟩, by rw [h3]⟩, by rw [h3]⟩, by rw [h3]⟩,
      (c_ref8_sameProtocols_l2 (by rw [h3])).2 (by rw [h3]), (c_ref8_sameProtocols_l3 (by rw [h3])).2 (by rw [h3]), (c_ref8_sameProtocols_l4 (by rw [h3])).2 (by rw [h3]), (c_ref8_sameProtocols_l5 (by rw [h3])).2 (by rw [h3])⟩
theorem e_same (a0 a1 : TRouter) : S.ref8_Same a0 a1 = (!(((((!strEq a0.fName a1.fName) || (a0.fAS != a1.fAS)) || ((a0.fInterfaces.length : Int) != (a1.fInterfaces.length : Int))) || ((a0.fNAT.length : Int) != (a1.fNAT.length : Int))) || ((a0.fStatics.length : Int) != (a1.fStatics.length : Int))) && (!anyN (fun i => !e_Interface (a0.fInterfaces.getD i default) (a1.fInterfaces.getD i default)) a0.fInterfaces.length && (!anyN (fun i => !e_Translation (a0.fNAT.getD i default) (a1.fNAT.getD i default)) a0.fNAT.length && (!anyN (fun i => !e_StaticRoute (a0.fStatics.getD i default) (a1.fStatics.getD i default)) a0.fStatics.length && (S.ref8_sameLists a0 a1 && S.ref8_sameProtocols a0 a1))))) := by
  unfold S.ref8_Same
  simp only [letS, and_bif]
  rw [l_ref8_Same_l1, l_ref8_Same_l2, l_ref8_Same_l3]
  generalize (((((!strEq a0.fName a1.fName) || (a0.fAS != a1.fAS)) || ((a0.fInterfaces.length : Int) != (a1.fInterfaces.length : Int))) || ((a0.fNAT.length : Int) != (a1.fNAT.length : Int))) || ((a0.fStatics.length : Int) != (a1.fStatics.length : Int))) = q1
  generalize (anyN (fun i => !e_Interface (a0.fInterfaces.getD i default) (a1.fInterfaces.getD i default)) a0.fInterfaces.length) = q2
  generalize (anyN (fun i => !e_Translation (a0.fNAT.getD i default) (a1.fNAT.getD i default)) a0.fNAT.length) = q3
  generalize (anyN (fun i => !e_StaticRoute (a0.fStatics.getD i default) (a1.fStatics.getD i default)) a0.fStatics.length) = q4
  generalize S.ref8_sameLists a0 a1 = q5
  generalize S.ref8_sameProtocols a0 a1 = q6
  revert q1 q2 q3 q4 q5 q6
  decide +kernel
theorem r_Same (a0 a1 : TRouter) : S.ref8_Same a0 a1 = true ↔ a0 = a1 := by
  rw [e_same]
  simp only [Bool.and_eq_true, Bool.not_eq_true', Bool.or_eq_false_iff, len_ne, Bool.not_eq_false', bne_eq_false_iff_eq, strEq_iff, r_lists, r_prot]
  constructor
  · rintro ⟨⟨⟨⟨⟨h1, h2⟩, h3⟩, h4⟩, h5⟩, h6, h7, h8, ⟨h9, h10, h11⟩, h12, h13, h14⟩
    have k1 := (c_ref8_Same_l1 (by omega)).1 h6
    have k2 := (c_ref8_Same_l2 (by omega)).1 h7
    have k3 := (c_ref8_Same_l3 (by omega)).1 h8
    clear h3 h4 h5 h6 h7 h8
    cases a0; cases a1
    simp_all
  · rintro rfl
    exact ⟨⟨⟨⟨⟨rfl, rfl⟩, rfl⟩, rfl⟩, rfl⟩, (c_ref8_Same_l1 rfl).2 rfl, (c_ref8_Same_l2 rfl).2 rfl, (c_ref8_Same_l3 rfl).2 rfl, ⟨rfl, rfl, rfl⟩, rfl, rfl, rfl⟩
theorem q_Net (l m : List TRouter) : S.slices_EqualFunc_api_Router_api_Router_api_Router_api_Router__model_Same l m = true ↔ l = m :=
  eq_fun (c := fun i => !S.model_Same (l.getD i default) (m.getD i default)) fun i => by rw [Bool.not_eq_false']; exact m_Same _ _
theorem n_Same (l m : List TRouter) : S.model_SameNetwork ⟨l⟩ ⟨m⟩ = true ↔ l = m := q_Net l m
theorem same_ref (a b : TRouter) : S.ref8_Same a b = S.model_Same a b := by rw [Bool.eq_iff_iff, r_Same, m_Same]
theorem same_comm (a b : TRouter) : S.model_Same a b = S.model_Same b a := by rw [Bool.eq_iff_iff, m_Same, m_Same]; exact eq_comm
theorem same_self (a : TRouter) : S.model_Same a a = true := (m_Same a a).2 rfl
theorem net_one (a b : TRouter) : S.model_SameNetwork ⟨[a]⟩ ⟨[b]⟩ = S.model_Same a b := by rw [Bool.eq_iff_iff, n_Same, m_Same]; simp
theorem net_nil (a : TRouter) : S.model_SameNetwork ⟨[a]⟩ ⟨[]⟩ = false := by
  rw [Bool.eq_false_iff, ne_eq, n_Same]; simp
theorem small_len {a0 : TRouter} (h : S.law5_Small a0 = true) : a0.fStatics.length ≤ 20 ∧ a0.fPV.fNetworks.length ≤ 12 := by
  unfold S.law5_Small at h
  generalize hg : ((((((((((((((decide ((a0.fInterfaces.length : Int) > 12)) || (decide ((a0.fLists.length : Int) > 12))) || (decide ((a0.fMaps.length : Int) > 12))) || (decide ((a0.fACLs.length : Int) > 12))) || (decide ((a0.fNAT.length : Int) > 12))) || (decide ((a0.fStatics.length : Int) > 20))) || (decide ((a0.fLS.fRanges.length : Int) > 8))) || (decide ((a0.fLS.fRedist.length : Int) > 8))) || (decide ((a0.fDV.fRedist.length : Int) > 8))) || (decide ((a0.fPV.fRedist.length : Int) > 8))) || (decide ((a0.fPV.fNeighbors.length : Int) > 12))) || (decide ((a0.fPV.fNetworks.length : Int) > 12))) || (decide ((a0.fPV.fAggregates.length : Int) > 12))) || (decide ((a0.fPV.fConditions.length : Int) > 12))) = gg at h
  cases gg with
  | true => cases h
  | false =>
    simp only [Bool.or_eq_false_iff, decide_eq_false_iff_not] at hg
    have h1 := hg.1.1.1.1.1.1.1.1.2
    have h2 := hg.1.1.2
    omega
theorem plain_ModelSame (a0 a1 : TRouter) (w0 : W_TRouter a0) (w1 : W_TRouter a1) : M.law5_ModelSame a0 a1 = some true := by
  have h0 := LofW_TRouter w0
  have h1 := LofW_TRouter w1
  have N1 : ∀ x : TRouter, L_TRouter x → L_TNetwork ⟨[x]⟩ := fun x hx => ⟨by simp [maxLen_eq], by simpa using hx⟩
  have N0 : L_TNetwork ⟨[]⟩ := ⟨by simp [maxLen_eq], by simp⟩
  unfold M.law5_ModelSame
  rw [s_law5_Small a0 h0, s_law5_Small a1 h1]
  cases hs0 : S.law5_Small a0 with
  | false => rfl
  | true =>
    obtain ⟨l1, l2⟩ := small_len hs0
    cases S.law5_Small a1 with
    | false => rfl
    | true =>
      show gd _ _ = _
      refine s_gd (all_c (by simp) (all_c (dt (by omega)) all_n)) ?_
      refine s_gd (all_c (by simp) (all_c (dt (by omega)) all_n)) ?_
      show ((M.ref8_Same a0 a1).bind fun r3 => (M.model_Same a0 a1).bind fun r4 => (gc (r4 == r3) (M.model_Same a1 a0)).bind fun r5 => (gc ((r4 == r3) && (r5 == r3)) (M.model_Same a0 a0)).bind fun r6 => (gc (((r4 == r3) && (r5 == r3)) && r6) (M.model_SameNetwork (⟨([a0] : List TRouter)⟩ : TNetwork) (⟨([a1] : List TRouter)⟩ : TNetwork))).bind fun r7 => (gc ((((r4 == r3) && (r5 == r3)) && r6) && (r7 == r3)) (M.model_SameNetwork (⟨([a0] : List TRouter)⟩ : TNetwork) (⟨([] : List TRouter)⟩ : TNetwork))).bind fun r8 => (gc (((((r4 == r3) && (r5 == r3)) && r6) && (r7 == r3)) && (!r8)) M.law5_sane).bind fun r9 => some ((((((r4 == r3) && (r5 == r3)) && r6) && (r7 == r3)) && (!r8)) && r9)) = some true
      rw [s_ref8_Same a0 a1 h0 h1, s_model_Same a0 a1 h0 h1, s_model_Same a1 a0 h1 h0, s_model_Same a0 a0 h0 h0, s_model_SameNetwork ⟨[a0]⟩ ⟨[a1]⟩ (N1 a0 h0) (N1 a1 h1), s_model_SameNetwork ⟨[a0]⟩ ⟨[]⟩ (N1 a0 h0) N0, same_ref, same_comm a1 a0, same_self, net_one, net_nil, sane_some]
      generalize S.model_Same a0 a1 = b
      cases b <;> rfl
end Nv
