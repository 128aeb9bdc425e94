/- Same of the model is equality. -/
import Derived.Test.YtmangnohekiphaaNvT1
import Derived.Test.YtmangnohekiphaaNvLW
import Derived.Test.YtmangnohekiphaaNvLibB
set_option maxRecDepth 100000
set_option synthInstance.maxSize 100000
set_option synthInstance.maxHeartbeats 1000000
set_option maxHeartbeats 1000000
namespace Nv
open Go

theorem ba_loop (bs : ByteArray) : ∀ (k i : Nat) (r : List UInt8), bs.size - i = k → ByteArray.toList.loop bs i r = r.reverse ++ bs.data.toList.drop i := by
  intro k
  induction k with
  | zero =>
    intro i r h
    have hz : bs.data.toList.length ≤ i := by
      have : bs.size = bs.data.size := rfl
      simp; omega
    unfold ByteArray.toList.loop
    rw [if_neg (by omega), List.drop_eq_nil_of_le hz, List.append_nil]
  | succ k ih =>
    intro i r h
    have hlt : i < bs.size := by omega
    unfold ByteArray.toList.loop
    rw [if_pos hlt, ih (i + 1) _ (by omega)]
    have hl : i < bs.data.toList.length := by
      have : bs.size = bs.data.size := rfl
      simp; omega
    rw [List.drop_eq_getElem_cons hl, List.reverse_cons, List.append_assoc]
    congr 1
    have e : bs.get! i = bs.data.toList[i] := by
      have : bs.get! i = bs.data[i]! := by cases bs; rfl
      rw [this, getElem!_pos _ _ (by simpa using hl)]
      simp
    rw [e]
    rfl
theorem ba_inj {a b : ByteArray} (h : a.toList = b.toList) : a = b := by
  unfold ByteArray.toList at h
  rw [ba_loop a _ 0 [] rfl, ba_loop b _ 0 [] rfl] at h
  simp only [List.reverse_nil, List.nil_append, List.drop_zero] at h
  cases a; cases b
  congr 1
  exact Array.toList_inj.1 h
theorem strEq_iff {a b : ByteArray} : strEq a b = true ↔ a = b := by
  unfold strEq
  rw [beq_iff_eq]
  exact ⟨ba_inj, fun h => by rw [h]⟩

theorem ext_getD {α : Type} [Inhabited α] {l m : List α} (hl : l.length = m.length) (h : ∀ i, i < l.length → l.getD i default = m.getD i default) : l = m := by
  refine List.ext_getElem hl fun i h1 h2 => ?_
  have := h i h1
  simpa [h1, h2] using this
theorem eq_any {α : Type} [Inhabited α] {l m : List α} {c : Nat → Bool} (h : ∀ i, c i = false ↔ l.getD i default = m.getD i default) (hl : l.length = m.length) : anyN c l.length = false ↔ l = m := by
  rw [anyN_false]
  constructor
  · intro k; exact ext_getD hl fun i hi => (h i).1 (k i hi)
  · rintro rfl; intro j _; exact (h j).2 rfl
theorem len_ne {α : Type} {l m : List α} : ((l.length : Int) != (m.length : Int)) = false ↔ l.length = m.length := by
  rw [bne_eq_false_iff_eq]; omega
theorem eq_fun {α : Type} [Inhabited α] {l m : List α} {c : Nat → Bool} (h : ∀ i, c i = false ↔ l.getD i default = m.getD i default) :
    (bif (l.length : Int) != (m.length : Int) then false else Sum.elim (fun _ => true) (fun y => y) (runN (fun i => bif c i then some (.inr false) else none) (.inl () : Unit ⊕ Bool) 0 l.length)) = true ↔ l = m := by
  rw [runN_any]
  have e : (bif (l.length : Int) != (m.length : Int) then false else Sum.elim (fun _ => true) (fun y => y) (bif anyN c l.length then .inr false else (.inl () : Unit ⊕ Bool))) = (!((l.length : Int) != (m.length : Int)) && !anyN c l.length) := by
    cases ((l.length : Int) != (m.length : Int)) <;> cases anyN c l.length <;> rfl
  rw [e, Bool.and_eq_true, Bool.not_eq_true', Bool.not_eq_true', len_ne]
  constructor
  · rintro ⟨h1, h2⟩; exact (eq_any h h1).1 h2
  · rintro rfl; exact ⟨rfl, (eq_any h rfl).2 rfl⟩
theorem and_bif {a b : Bool} : (a && (bif a then b else default)) = (a && b) := by cases a <;> rfl
theorem prefix_iff {p q : TPrefix} : p = q ↔ p.fAddr = q.fAddr ∧ p.fLen = q.fLen := by
  cases p; cases q; simp
theorem wild_iff {p q : TWildcard} : p = q ↔ p.fAddr = q.fAddr ∧ p.fMask = q.fMask := by
  cases p; cases q; simp
theorem port_iff {p q : TPortRange} : p = q ↔ p.fLo = q.fLo ∧ p.fHi = q.fHi := by
  cases p; cases q; simp

def e_Prefix (x y : TPrefix) : Bool := (((x.fAddr) == (y.fAddr)) && (((x.fLen) == (y.fLen)) && true))
theorem x_Prefix {x y : TPrefix} : e_Prefix x y = true ↔ x = y := by
  cases x; cases y
  simp [e_Prefix, strEq_iff, prefix_iff, wild_iff, port_iff, and_assoc]
theorem q_Prefix (l m : List TPrefix) : S.slices_Equal_api_Prefix_api_Prefix l m = true ↔ l = m :=
  eq_fun (c := fun i => !e_Prefix (l.getD i default) (m.getD i default)) fun i => by rw [Bool.not_eq_false']; exact x_Prefix
def e_Interface (x y : TInterface) : Bool := (strEq (x.fName) (y.fName) && (((x.fAddr) == (y.fAddr)) && (((x.fLen) == (y.fLen)) && (((x.fVLAN) == (y.fVLAN)) && (((x.fDown) == (y.fDown)) && (((x.fLS) == (y.fLS)) && (((x.fArea) == (y.fArea)) && (((x.fCost) == (y.fCost)) && (((x.fDV) == (y.fDV)) && (strEq (x.fIn) (y.fIn) && (strEq (x.fOut) (y.fOut) && (((x.fSide) == (y.fSide)) && true))))))))))))
theorem x_Interface {x y : TInterface} : e_Interface x y = true ↔ x = y := by
  cases x; cases y
  simp [e_Interface, strEq_iff, prefix_iff, wild_iff, port_iff, and_assoc]
theorem q_Interface (l m : List TInterface) : S.slices_Equal_api_Interface_api_Interface l m = true ↔ l = m :=
  eq_fun (c := fun i => !e_Interface (l.getD i default) (m.getD i default)) fun i => by rw [Bool.not_eq_false']; exact x_Interface
def e_PrefixRule (x y : TPrefixRule) : Bool := (((x.fPermit) == (y.fPermit)) && (((((x.fPrefix).fAddr) == ((y.fPrefix).fAddr)) && ((((x.fPrefix).fLen) == ((y.fPrefix).fLen)) && true)) && (((x.fMin) == (y.fMin)) && (((x.fMax) == (y.fMax)) && true))))
theorem x_PrefixRule {x y : TPrefixRule} : e_PrefixRule x y = true ↔ x = y := by
  cases x; cases y
  simp [e_PrefixRule, strEq_iff, prefix_iff, wild_iff, port_iff, and_assoc]
theorem q_PrefixRule (l m : List TPrefixRule) : S.slices_Equal_api_PrefixRule_api_PrefixRule l m = true ↔ l = m :=
  eq_fun (c := fun i => !e_PrefixRule (l.getD i default) (m.getD i default)) fun i => by rw [Bool.not_eq_false']; exact x_PrefixRule
def e_Clause (x y : TClause) : Bool := (((x.fPermit) == (y.fPermit)) && (strEq (x.fList) (y.fList) && (((x.fTag) == (y.fTag)) && (((x.fSetMetric) == (y.fSetMetric)) && (((x.fSetTag) == (y.fSetTag)) && (((x.fSetPref) == (y.fSetPref)) && (((x.fPrepend) == (y.fPrepend)) && true)))))))
theorem x_Clause {x y : TClause} : e_Clause x y = true ↔ x = y := by
  cases x; cases y
  simp [e_Clause, strEq_iff, prefix_iff, wild_iff, port_iff, and_assoc]
theorem q_Clause (l m : List TClause) : S.slices_Equal_api_Clause_api_Clause l m = true ↔ l = m :=
  eq_fun (c := fun i => !e_Clause (l.getD i default) (m.getD i default)) fun i => by rw [Bool.not_eq_false']; exact x_Clause
def e_Rule (x y : TRule) : Bool := (((x.fPermit) == (y.fPermit)) && (((x.fProto) == (y.fProto)) && (((((x.fSrc).fAddr) == ((y.fSrc).fAddr)) && ((((x.fSrc).fMask) == ((y.fSrc).fMask)) && true)) && (((((x.fDst).fAddr) == ((y.fDst).fAddr)) && ((((x.fDst).fMask) == ((y.fDst).fMask)) && true)) && (((((x.fSrcPorts).fLo) == ((y.fSrcPorts).fLo)) && ((((x.fSrcPorts).fHi) == ((y.fSrcPorts).fHi)) && true)) && (((((x.fDstPorts).fLo) == ((y.fDstPorts).fLo)) && ((((x.fDstPorts).fHi) == ((y.fDstPorts).fHi)) && true)) && true))))))
theorem x_Rule {x y : TRule} : e_Rule x y = true ↔ x = y := by
  cases x; cases y
  simp [e_Rule, strEq_iff, prefix_iff, wild_iff, port_iff, and_assoc]
theorem q_Rule (l m : List TRule) : S.slices_Equal_api_Rule_api_Rule l m = true ↔ l = m :=
  eq_fun (c := fun i => !e_Rule (l.getD i default) (m.getD i default)) fun i => by rw [Bool.not_eq_false']; exact x_Rule
def e_Translation (x y : TTranslation) : Bool := (((x.fKind) == (y.fKind)) && (((x.fInside) == (y.fInside)) && (((x.fOutside) == (y.fOutside)) && (((x.fProto) == (y.fProto)) && (((x.fInsidePort) == (y.fInsidePort)) && (((x.fOutsidePort) == (y.fOutsidePort)) && (strEq (x.fList) (y.fList) && (((x.fLo) == (y.fLo)) && (((x.fHi) == (y.fHi)) && true)))))))))
theorem x_Translation {x y : TTranslation} : e_Translation x y = true ↔ x = y := by
  cases x; cases y
  simp [e_Translation, strEq_iff, prefix_iff, wild_iff, port_iff, and_assoc]
theorem q_Translation (l m : List TTranslation) : S.slices_Equal_api_Translation_api_Translation l m = true ↔ l = m :=
  eq_fun (c := fun i => !e_Translation (l.getD i default) (m.getD i default)) fun i => by rw [Bool.not_eq_false']; exact x_Translation
def e_StaticRoute (x y : TStaticRoute) : Bool := (((((x.fPrefix).fAddr) == ((y.fPrefix).fAddr)) && ((((x.fPrefix).fLen) == ((y.fPrefix).fLen)) && true)) && (((x.fNext) == (y.fNext)) && (strEq (x.fIface) (y.fIface) && (((x.fDiscard) == (y.fDiscard)) && (((x.fAdmin) == (y.fAdmin)) && (((x.fTag) == (y.fTag)) && true))))))
theorem x_StaticRoute {x y : TStaticRoute} : e_StaticRoute x y = true ↔ x = y := by
  cases x; cases y
  simp [e_StaticRoute, strEq_iff, prefix_iff, wild_iff, port_iff, and_assoc]
theorem q_StaticRoute (l m : List TStaticRoute) : S.slices_Equal_api_StaticRoute_api_StaticRoute l m = true ↔ l = m :=
  eq_fun (c := fun i => !e_StaticRoute (l.getD i default) (m.getD i default)) fun i => by rw [Bool.not_eq_false']; exact x_StaticRoute
def e_AreaRange (x y : TAreaRange) : Bool := (((x.fArea) == (y.fArea)) && (((((x.fPrefix).fAddr) == ((y.fPrefix).fAddr)) && ((((x.fPrefix).fLen) == ((y.fPrefix).fLen)) && true)) && true))
theorem x_AreaRange {x y : TAreaRange} : e_AreaRange x y = true ↔ x = y := by
  cases x; cases y
  simp [e_AreaRange, strEq_iff, prefix_iff, wild_iff, port_iff, and_assoc]
theorem q_AreaRange (l m : List TAreaRange) : S.slices_Equal_api_AreaRange_api_AreaRange l m = true ↔ l = m :=
  eq_fun (c := fun i => !e_AreaRange (l.getD i default) (m.getD i default)) fun i => by rw [Bool.not_eq_false']; exact x_AreaRange
def e_Redist (x y : TRedist) : Bool := (((x.fFrom) == (y.fFrom)) && (((x.fMetric) == (y.fMetric)) && (((x.fTag) == (y.fTag)) && (strEq (x.fMap) (y.fMap) && (((x.fType) == (y.fType)) && true)))))
theorem x_Redist {x y : TRedist} : e_Redist x y = true ↔ x = y := by
  cases x; cases y
  simp [e_Redist, strEq_iff, prefix_iff, wild_iff, port_iff, and_assoc]
theorem q_Redist (l m : List TRedist) : S.slices_Equal_api_Redist_api_Redist l m = true ↔ l = m :=
  eq_fun (c := fun i => !e_Redist (l.getD i default) (m.getD i default)) fun i => by rw [Bool.not_eq_false']; exact x_Redist
def e_Neighbor (x y : TNeighbor) : Bool := (((x.fAddr) == (y.fAddr)) && (((x.fAS) == (y.fAS)) && (strEq (x.fIn) (y.fIn) && (strEq (x.fOut) (y.fOut) && true))))
theorem x_Neighbor {x y : TNeighbor} : e_Neighbor x y = true ↔ x = y := by
  cases x; cases y
  simp [e_Neighbor, strEq_iff, prefix_iff, wild_iff, port_iff, and_assoc]
theorem q_Neighbor (l m : List TNeighbor) : S.slices_Equal_api_Neighbor_api_Neighbor l m = true ↔ l = m :=
  eq_fun (c := fun i => !e_Neighbor (l.getD i default) (m.getD i default)) fun i => by rw [Bool.not_eq_false']; exact x_Neighbor
def e_Aggregate (x y : TAggregate) : Bool := (((((x.fPrefix).fAddr) == ((y.fPrefix).fAddr)) && ((((x.fPrefix).fLen) == ((y.fPrefix).fLen)) && true)) && (((x.fOnly) == (y.fOnly)) && true))
theorem x_Aggregate {x y : TAggregate} : e_Aggregate x y = true ↔ x = y := by
  cases x; cases y
  simp [e_Aggregate, strEq_iff, prefix_iff, wild_iff, port_iff, and_assoc]
theorem q_Aggregate (l m : List TAggregate) : S.slices_Equal_api_Aggregate_api_Aggregate l m = true ↔ l = m :=
  eq_fun (c := fun i => !e_Aggregate (l.getD i default) (m.getD i default)) fun i => by rw [Bool.not_eq_false']; exact x_Aggregate
def e_Condition (x y : TCondition) : Bool := (((((x.fPrefix).fAddr) == ((y.fPrefix).fAddr)) && ((((x.fPrefix).fLen) == ((y.fPrefix).fLen)) && true)) && (((((x.fIf).fAddr) == ((y.fIf).fAddr)) && ((((x.fIf).fLen) == ((y.fIf).fLen)) && true)) && (((x.fAbsent) == (y.fAbsent)) && true)))
theorem x_Condition {x y : TCondition} : e_Condition x y = true ↔ x = y := by
  cases x; cases y
  simp [e_Condition, strEq_iff, prefix_iff, wild_iff, port_iff, and_assoc]
theorem q_Condition (l m : List TCondition) : S.slices_Equal_api_Condition_api_Condition l m = true ↔ l = m :=
  eq_fun (c := fun i => !e_Condition (l.getD i default) (m.getD i default)) fun i => by rw [Bool.not_eq_false']; exact x_Condition
theorem s_PrefixList {x y : TPrefixList} : S.model_Same_1 x y = true ↔ x = y := by
  unfold S.model_Same_1
  simp only [letS, and_bif, Bool.and_eq_true, strEq_iff, q_PrefixRule]
  cases x; cases y; simp
theorem q_PrefixList (l m : List TPrefixList) : S.slices_EqualFunc_api_PrefixList_api_PrefixList_api_PrefixList_api_PrefixList__model_Same_1 l m = true ↔ l = m :=
  eq_fun (c := fun i => !S.model_Same_1 (l.getD i default) (m.getD i default)) fun i => by rw [Bool.not_eq_false']; exact s_PrefixList
theorem s_RouteMap {x y : TRouteMap} : S.model_Same_2 x y = true ↔ x = y := by
  unfold S.model_Same_2
  simp only [letS, and_bif, Bool.and_eq_true, strEq_iff, q_Clause]
  cases x; cases y; simp
theorem q_RouteMap (l m : List TRouteMap) : S.slices_EqualFunc_api_RouteMap_api_RouteMap_api_RouteMap_api_RouteMap__model_Same_2 l m = true ↔ l = m :=
  eq_fun (c := fun i => !S.model_Same_2 (l.getD i default) (m.getD i default)) fun i => by rw [Bool.not_eq_false']; exact s_RouteMap
theorem s_ACL {x y : TACL} : S.model_Same_3 x y = true ↔ x = y := by
  unfold S.model_Same_3
  simp only [letS, and_bif, Bool.and_eq_true, strEq_iff, q_Rule]
  cases x; cases y; simp
theorem q_ACL (l m : List TACL) : S.slices_EqualFunc_api_ACL_api_ACL_api_ACL_api_ACL__model_Same_3 l m = true ↔ l = m :=
  eq_fun (c := fun i => !S.model_Same_3 (l.getD i default) (m.getD i default)) fun i => by rw [Bool.not_eq_false']; exact s_ACL
theorem m_sameLinkState (x y : TLinkState) : S.model_sameLinkState x y = true ↔ x = y := by
  unfold S.model_sameLinkState
  simp only [letS, and_bif, Bool.and_eq_true, beq_iff_eq, strEq_iff, q_Prefix, q_Interface, q_PrefixRule, q_Clause, q_Rule, q_Translation, q_StaticRoute, q_AreaRange, q_Redist, q_Neighbor, q_Aggregate, q_Condition, q_PrefixList, q_RouteMap, q_ACL]
  cases x; cases y; simp [and_assoc]
theorem m_sameDistanceVector (x y : TDistanceVector) : S.model_sameDistanceVector x y = true ↔ x = y := by
  unfold S.model_sameDistanceVector
  simp only [letS, and_bif, Bool.and_eq_true, beq_iff_eq, strEq_iff, q_Prefix, q_Interface, q_PrefixRule, q_Clause, q_Rule, q_Translation, q_StaticRoute, q_AreaRange, q_Redist, q_Neighbor, q_Aggregate, q_Condition, q_PrefixList, q_RouteMap, q_ACL, m_sameLinkState]
  cases x; cases y; simp [and_assoc]
theorem m_samePathVector (x y : TPathVector) : S.model_samePathVector x y = true ↔ x = y := by
  unfold S.model_samePathVector
  simp only [letS, and_bif, Bool.and_eq_true, beq_iff_eq, strEq_iff, q_Prefix, q_Interface, q_PrefixRule, q_Clause, q_Rule, q_Translation, q_StaticRoute, q_AreaRange, q_Redist, q_Neighbor, q_Aggregate, q_Condition, q_PrefixList, q_RouteMap, q_ACL, m_sameLinkState, m_sameDistanceVector]
  cases x; cases y; simp [and_assoc]
theorem m_Same (x y : TRouter) : S.model_Same x y = true ↔ x = y := by
  unfold S.model_Same
  simp only [letS, and_bif, Bool.and_eq_true, beq_iff_eq, strEq_iff, q_Prefix, q_Interface, q_PrefixRule, q_Clause, q_Rule, q_Translation, q_StaticRoute, q_AreaRange, q_Redist, q_Neighbor, q_Aggregate, q_Condition, q_PrefixList, q_RouteMap, q_ACL, m_sameLinkState, m_sameDistanceVector, m_samePathVector]
  cases x; cases y; simp [and_assoc]
end Nv
