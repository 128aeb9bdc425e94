/- The mirrors: what each function of the given program computes, in plain terms. -/
import Derived.Test.YtaienbkgekjdnaaGreatNvLibB
import Derived.Test.YtaienbkgekjdnaaGreatNvLibD
import Derived.Test.YtaienbkgekjdnaaGreatNvLibC
set_option maxRecDepth 100000
namespace Nv
open Go
structure TInterface where
  fName : ByteArray
  fAddr : Int
  fLen : Int
  fVLAN : Int
  fDown : Bool
  fLS : Bool
  fArea : Int
  fCost : Int
  fDV : Bool
  fIn : ByteArray
  fOut : ByteArray
  fSide : Int
  deriving Inhabited
def c_TInterface (x : TInterface) : List D := [.str x.fName, .int .u32 x.fAddr, .int .i64 x.fLen, .int .i64 x.fVLAN, .bool x.fDown, .bool x.fLS, .int .i64 x.fArea, .int .i64 x.fCost, .bool x.fDV, .str x.fIn, .str x.fOut, .int .i64 x.fSide]
structure TPrefix where
  fAddr : Int
  fLen : Int
  deriving Inhabited
def c_TPrefix (x : TPrefix) : List D := [.int .u32 x.fAddr, .int .i64 x.fLen]
structure TPrefixRule where
  fPermit : Bool
  fPrefix : TPrefix
  fMin : Int
  fMax : Int
  deriving Inhabited
def c_TPrefixRule (x : TPrefixRule) : List D := [.bool x.fPermit, .int .u32 x.fPrefix.fAddr, .int .i64 x.fPrefix.fLen, .int .i64 x.fMin, .int .i64 x.fMax]
structure TPrefixList where
  fName : ByteArray
  fRules : List TPrefixRule
  deriving Inhabited
def c_TPrefixList (x : TPrefixList) : List D := [.str x.fName, sL 5 c_TPrefixRule x.fRules]
structure TClause where
  fPermit : Bool
  fList : ByteArray
  fTag : Int
  fSetMetric : Int
  fSetTag : Int
  fSetPref : Int
  fPrepend : Int
  deriving Inhabited
def c_TClause (x : TClause) : List D := [.bool x.fPermit, .str x.fList, .int .i64 x.fTag, .int .i64 x.fSetMetric, .int .i64 x.fSetTag, .int .i64 x.fSetPref, .int .i64 x.fPrepend]
structure TRouteMap where
  fName : ByteArray
  fClauses : List TClause
  deriving Inhabited
def c_TRouteMap (x : TRouteMap) : List D := [.str x.fName, sL 7 c_TClause x.fClauses]
structure TWildcard where
  fAddr : Int
  fMask : Int
  deriving Inhabited
def c_TWildcard (x : TWildcard) : List D := [.int .u32 x.fAddr, .int .u32 x.fMask]
structure TPortRange where
  fLo : Int
  fHi : Int
  deriving Inhabited
def c_TPortRange (x : TPortRange) : List D := [.int .i64 x.fLo, .int .i64 x.fHi]
structure TRule where
  fPermit : Bool
  fProto : Int
  fSrc : TWildcard
  fDst : TWildcard
  fSrcPorts : TPortRange
  fDstPorts : TPortRange
  deriving Inhabited
def c_TRule (x : TRule) : List D := [.bool x.fPermit, .int .i64 x.fProto, .int .u32 x.fSrc.fAddr, .int .u32 x.fSrc.fMask, .int .u32 x.fDst.fAddr, .int .u32 x.fDst.fMask, .int .i64 x.fSrcPorts.fLo, .int .i64 x.fSrcPorts.fHi, .int .i64 x.fDstPorts.fLo, .int .i64 x.fDstPorts.fHi]
structure TACL where
  fName : ByteArray
  fRules : List TRule
  deriving Inhabited
def c_TACL (x : TACL) : List D := [.str x.fName, sL 10 c_TRule x.fRules]
structure TTranslation where
  fKind : Int
  fInside : Int
  fOutside : Int
  fProto : Int
  fInsidePort : Int
  fOutsidePort : Int
  fList : ByteArray
  fLo : Int
  fHi : Int
  deriving Inhabited
def c_TTranslation (x : TTranslation) : List D := [.int .i64 x.fKind, .int .u32 x.fInside, .int .u32 x.fOutside, .int .i64 x.fProto, .int .i64 x.fInsidePort, .int .i64 x.fOutsidePort, .str x.fList, .int .u32 x.fLo, .int .u32 x.fHi]
structure TStaticRoute where
  fPrefix : TPrefix
  fNext : Int
  fIface : ByteArray
  fDiscard : Bool
  fAdmin : Int
  fTag : Int
  deriving Inhabited
def c_TStaticRoute (x : TStaticRoute) : List D := [.int .u32 x.fPrefix.fAddr, .int .i64 x.fPrefix.fLen, .int .u32 x.fNext, .str x.fIface, .bool x.fDiscard, .int .i64 x.fAdmin, .int .i64 x.fTag]
structure TAreaRange where
  fArea : Int
  fPrefix : TPrefix
  deriving Inhabited
def c_TAreaRange (x : TAreaRange) : List D := [.int .i64 x.fArea, .int .u32 x.fPrefix.fAddr, .int .i64 x.fPrefix.fLen]
structure TRedist where
  fFrom : Int
  fMetric : Int
  fTag : Int
  fMap : ByteArray
  fType : Int
  deriving Inhabited
def c_TRedist (x : TRedist) : List D := [.int .i64 x.fFrom, .int .i64 x.fMetric, .int .i64 x.fTag, .str x.fMap, .int .i64 x.fType]
structure TLinkState where
  fOn : Bool
  fAdmin : Int
  fRanges : List TAreaRange
  fRedist : List TRedist
  deriving Inhabited
def c_TLinkState (x : TLinkState) : List D := [.bool x.fOn, .int .i64 x.fAdmin, sL 3 c_TAreaRange x.fRanges, sL 5 c_TRedist x.fRedist]
structure TDistanceVector where
  fOn : Bool
  fAdmin : Int
  fIn : ByteArray
  fOut : ByteArray
  fRedist : List TRedist
  deriving Inhabited
def c_TDistanceVector (x : TDistanceVector) : List D := [.bool x.fOn, .int .i64 x.fAdmin, .str x.fIn, .str x.fOut, sL 5 c_TRedist x.fRedist]
structure TNeighbor where
  fAddr : Int
  fAS : Int
  fIn : ByteArray
  fOut : ByteArray
  deriving Inhabited
def c_TNeighbor (x : TNeighbor) : List D := [.int .u32 x.fAddr, .int .i64 x.fAS, .str x.fIn, .str x.fOut]
structure TAggregate where
  fPrefix : TPrefix
  fOnly : Bool
  deriving Inhabited
def c_TAggregate (x : TAggregate) : List D := [.int .u32 x.fPrefix.fAddr, .int .i64 x.fPrefix.fLen, .bool x.fOnly]
structure TCondition where
  fPrefix : TPrefix
  fIf : TPrefix
  fAbsent : Bool
  deriving Inhabited
def c_TCondition (x : TCondition) : List D := [.int .u32 x.fPrefix.fAddr, .int .i64 x.fPrefix.fLen, .int .u32 x.fIf.fAddr, .int .i64 x.fIf.fLen, .bool x.fAbsent]
structure TPathVector where
  fOn : Bool
  fExternal : Int
  fInternal : Int
  fNeighbors : List TNeighbor
  fNetworks : List TPrefix
  fAggregates : List TAggregate
  fConditions : List TCondition
  fRedist : List TRedist
  deriving Inhabited
def c_TPathVector (x : TPathVector) : List D := [.bool x.fOn, .int .i64 x.fExternal, .int .i64 x.fInternal, sL 4 c_TNeighbor x.fNeighbors, sL 2 c_TPrefix x.fNetworks, sL 3 c_TAggregate x.fAggregates, sL 5 c_TCondition x.fConditions, sL 5 c_TRedist x.fRedist]
structure TRouter where
  fName : ByteArray
  fAS : Int
  fInterfaces : List TInterface
  fLists : List TPrefixList
  fMaps : List TRouteMap
  fACLs : List TACL
  fNAT : List TTranslation
  fStatics : List TStaticRoute
  fLS : TLinkState
  fDV : TDistanceVector
  fPV : TPathVector
  deriving Inhabited
def c_TRouter (x : TRouter) : List D := [.str x.fName, .int .i64 x.fAS, sL 12 c_TInterface x.fInterfaces, sL 2 c_TPrefixList x.fLists, sL 2 c_TRouteMap x.fMaps, sL 2 c_TACL x.fACLs, sL 9 c_TTranslation x.fNAT, sL 7 c_TStaticRoute x.fStatics, .bool x.fLS.fOn, .int .i64 x.fLS.fAdmin, sL 3 c_TAreaRange x.fLS.fRanges, sL 5 c_TRedist x.fLS.fRedist, .bool x.fDV.fOn, .int .i64 x.fDV.fAdmin, .str x.fDV.fIn, .str x.fDV.fOut, sL 5 c_TRedist x.fDV.fRedist, .bool x.fPV.fOn, .int .i64 x.fPV.fExternal, .int .i64 x.fPV.fInternal, sL 4 c_TNeighbor x.fPV.fNeighbors, sL 2 c_TPrefix x.fPV.fNetworks, sL 3 c_TAggregate x.fPV.fAggregates, sL 5 c_TCondition x.fPV.fConditions, sL 5 c_TRedist x.fPV.fRedist]
structure TNetwork where
  fRouters : List TRouter
  deriving Inhabited
def c_TNetwork (x : TNetwork) : List D := [sL 25 c_TRouter x.fRouters]
structure TEnd where
  fRouter : Int
  fIface : Int
  deriving Inhabited
def c_TEnd (x : TEnd) : List D := [.int .i64 x.fRouter, .int .i64 x.fIface]
structure TDomain where
  fPrefix : TPrefix
  fVLAN : Int
  fEnds : List TEnd
  deriving Inhabited
def c_TDomain (x : TDomain) : List D := [.int .u32 x.fPrefix.fAddr, .int .i64 x.fPrefix.fLen, .int .i64 x.fVLAN, sL 2 c_TEnd x.fEnds]
structure TTopology where
  fDomains : List TDomain
  fLinks : List Int
  deriving Inhabited
def c_TTopology (x : TTopology) : List D := [sL 4 c_TDomain x.fDomains, sL 1 (ci .i64) x.fLinks]
structure TdomainKey where
  fprefix : TPrefix
  fvlan : Int
  deriving Inhabited
def c_TdomainKey (x : TdomainKey) : List D := [.int .u32 x.fprefix.fAddr, .int .i64 x.fprefix.fLen, .int .i64 x.fvlan]
structure TView where
  fNet : TNetwork
  fTopo : TTopology
  fDown : List Int
  deriving Inhabited
def c_TView (x : TView) : List D := [sL 25 c_TRouter x.fNet.fRouters, sL 4 c_TDomain x.fTopo.fDomains, sL 1 (ci .i64) x.fTopo.fLinks, sL 1 (ci .i64) x.fDown]
def topoKeyEq (a b : TdomainKey) : Bool := (((a.fprefix.fAddr == b.fprefix.fAddr) && ((a.fprefix.fLen == b.fprefix.fLen) && true)) && ((a.fvlan == b.fvlan) && true))
def hdDom (x : TDomain) : List D := [.int .u32 x.fPrefix.fAddr, .int .i64 x.fPrefix.fLen, .int .i64 x.fVLAN]
noncomputable def M.law5_Small_l1 (a0 : TRouter) (p1 : Int) : Option (Int ⊕ (Unit ⊕ Bool)) :=
  bif decide (p1 < (a0.fLists.length : Int)) then (gd [decide (0 ≤ p1), decide (p1 < (a0.fLists.length : Int))] (bif decide ((((a0.fLists.getD p1.toNat default).fRules).length : Int) > 20) then (some (.inr (.inr false))) else (some (.inl (wr .i64 (p1 + 1)))))) else (some (.inr (.inl ())))
noncomputable def M.law5_Small_l2 (a0 : TRouter) (p6 : Int) : Option (Int ⊕ (Unit ⊕ Bool)) :=
  bif decide (p6 < (a0.fMaps.length : Int)) then (gd [decide (0 ≤ p6), decide (p6 < (a0.fMaps.length : Int))] (bif decide ((((a0.fMaps.getD p6.toNat default).fClauses).length : Int) > 12) then (some (.inr (.inr false))) else (some (.inl (wr .i64 (p6 + 1)))))) else (some (.inr (.inl ())))
noncomputable def M.law5_Small_l3 (a0 : TRouter) (p11 : Int) : Option (Int ⊕ (Unit ⊕ Bool)) :=
  bif decide (p11 < (a0.fACLs.length : Int)) then (gd [decide (0 ≤ p11), decide (p11 < (a0.fACLs.length : Int))] (bif decide ((((a0.fACLs.getD p11.toNat default).fRules).length : Int) > 20) then (some (.inr (.inr false))) else (some (.inl (wr .i64 (p11 + 1)))))) else (some (.inr (.inl ())))
noncomputable def M.law5_Small (a0 : TRouter) : Option Bool :=
  bif (((((((((((((decide ((a0.fInterfaces.length : Int) > 12)) || (decide ((a0.fLists.length : Int) > 12))) || (decide ((a0.fMaps.length : Int) > 12))) || (decide ((a0.fACLs.length : Int) > 12))) || (decide ((a0.fNAT.length : Int) > 12))) || (decide ((a0.fStatics.length : Int) > 20))) || (decide ((a0.fLS.fRanges.length : Int) > 8))) || (decide ((a0.fLS.fRedist.length : Int) > 8))) || (decide ((a0.fDV.fRedist.length : Int) > 8))) || (decide ((a0.fPV.fRedist.length : Int) > 8))) || (decide ((a0.fPV.fNeighbors.length : Int) > 12))) || (decide ((a0.fPV.fNetworks.length : Int) > 12))) || (decide ((a0.fPV.fAggregates.length : Int) > 12))) || (decide ((a0.fPV.fConditions.length : Int) > 12)) then (some false) else ((loopM (M.law5_Small_l1 a0) 0).bind fun y3 => Sum.elim (fun _ => (loopM (M.law5_Small_l2 a0) 0).bind fun y8 => Sum.elim (fun _ => (loopM (M.law5_Small_l3 a0) 0).bind fun y13 => Sum.elim (fun _ => some true) (fun y15 => some y15) y13) (fun y10 => some y10) y8) (fun y5 => some y5) y3)
noncomputable def M.law13_Small_l1 (a0 : TNetwork) (p1 : Int) : Option (Int ⊕ (Unit ⊕ Bool)) :=
  bif decide (p1 < (a0.fRouters.length : Int)) then ((M.law5_Small (a0.fRouters.getD p1.toNat default)).bind fun r3 => gd [decide (0 ≤ p1), decide (p1 < (a0.fRouters.length : Int))] (bif !r3 then (some (.inr (.inr false))) else (some (.inl (wr .i64 (p1 + 1)))))) else (some (.inr (.inl ())))
noncomputable def M.law13_Small (a0 : TNetwork) : Option Bool :=
  bif decide ((a0.fRouters.length : Int) > 9) then (some false) else ((loopM (M.law13_Small_l1 a0) 0).bind fun y4 => Sum.elim (fun _ => some true) (fun y6 => some y6) y4)
noncomputable def M.scan_letter (a0 : Int) : Option Bool :=
  some (((decide (65 ≤ a0)) && (decide (a0 ≤ 90))) || ((decide (97 ≤ a0)) && (decide (a0 ≤ 122))))
noncomputable def M.scan_digit (a0 : Int) : Option Bool :=
  some ((decide (48 ≤ a0)) && (decide (a0 ≤ 57)))
noncomputable def M.scan_Name_l1 (a0 : ByteArray) (p2 : Int) : Option (Int ⊕ (Unit ⊕ Bool)) :=
  bif decide (p2 < (a0.size : Int)) then (gd [decide (0 ≤ p2), decide (p2 < (a0.size : Int))] ((M.scan_letter (byteAt a0 p2)).bind fun r4 => (gc (!r4) (M.scan_digit (byteAt a0 p2))).bind fun r5 => bif (((((!r4) && (!r5)) && ((byteAt a0 p2) != 45)) && ((byteAt a0 p2) != 95)) && ((byteAt a0 p2) != 47)) && ((byteAt a0 p2) != 46) then (some (.inr (.inr false))) else (some (.inl (wr .i64 (p2 + 1)))))) else (some (.inr (.inl ())))
noncomputable def M.scan_Name (a0 : ByteArray) : Option Bool :=
  (gc (!((decide ((a0.size : Int) < 1)) || (decide ((a0.size : Int) > 15)))) (M.scan_letter (byteAt a0 0))).bind fun r1 => gd [guardB (!((decide ((a0.size : Int) < 1)) || (decide ((a0.size : Int) > 15)))) (decide (0 ≤ 0)), guardB (!((decide ((a0.size : Int) < 1)) || (decide ((a0.size : Int) > 15)))) (decide (0 < (a0.size : Int)))] (bif ((decide ((a0.size : Int) < 1)) || (decide ((a0.size : Int) > 15))) || (!r1) then (some false) else ((loopM (M.scan_Name_l1 a0) 1).bind fun y6 => Sum.elim (fun _ => some true) (fun y8 => some y8) y6))
noncomputable def M.model_within (a0 : Int) (a1 : Int) (a2 : Int) : Option Bool :=
  some ((decide (a1 ≤ a0)) && (decide (a0 ≤ a2)))
noncomputable def M.model_Interface_1 (a0 : TInterface) (b0 : ByteArray) : Option Bool :=
  some (strEq a0.fName b0)
noncomputable def M.slices_IndexFunc_api_Interface_api_Interface__model_Interface_1_l1 (a0 : List TInterface) (a1c0 : ByteArray) (p1 : Int) : Option (Int ⊕ (Unit ⊕ Int)) :=
  bif decide (p1 < (a0.length : Int)) then ((M.model_Interface_1 (a0.getD p1.toNat default) a1c0).bind fun r3 => gd [decide (0 ≤ p1), decide (p1 < (a0.length : Int))] (bif r3 then (some (.inr (.inr p1))) else (some (.inl (wr .i64 (p1 + 1)))))) else (some (.inr (.inl ())))
noncomputable def M.slices_IndexFunc_api_Interface_api_Interface__model_Interface_1 (a0 : List TInterface) (a1c0 : ByteArray) : Option Int :=
  (loopM (M.slices_IndexFunc_api_Interface_api_Interface__model_Interface_1_l1 a0 a1c0) 0).bind fun y4 => Sum.elim (fun _ => some (-1)) (fun y6 => some y6) y4
noncomputable def M.model_Interface (a0 : TRouter) (a1 : ByteArray) : Option Int :=
  (M.slices_IndexFunc_api_Interface_api_Interface__model_Interface_1 a0.fInterfaces a1).bind fun r1 => some r1
noncomputable def M.model_rightInterface (a0 : TInterface) : Option Bool :=
  (M.model_within a0.fLen 0 32).bind fun r1 => (gc (!(!r1)) (M.model_within a0.fVLAN 0 4094)).bind fun r2 => (gc (!((!r1) || (!r2))) (M.model_within a0.fSide 0 2)).bind fun r3 => bif ((!r1) || (!r2)) || (!r3) then (some false) else (bif (a0.fLen == 0) && (((((((a0.fAddr != 0) || (a0.fVLAN != 0)) || (a0.fSide != 0)) || a0.fLS) || a0.fDV) || (!strEq a0.fIn (⟨#[]⟩ : ByteArray))) || (!strEq a0.fOut (⟨#[]⟩ : ByteArray))) then (some false) else (bif (a0.fLen != 0) && (a0.fAddr == 0) then (some false) else (bif a0.fLS then ((M.model_within a0.fArea 0 255).bind fun r4 => (gc r4 (M.model_within a0.fCost 1 65535)).bind fun r5 => some (r4 && r5)) else (some ((a0.fArea == 0) && (a0.fCost == 0))))))
noncomputable def M.addr_clamp (a0 : Int) : Option Int :=
  some (if (if 32 < a0 then 32 else a0) > 0 then (if 32 < a0 then 32 else a0) else 0)
noncomputable def M.addr_Mask (a0 : Int) : Option Int :=
  (M.addr_clamp a0).bind fun r1 => gd [decide (0 ≤ (wr .i64 (32 - r1)))] (some (wr .u32 (4294967295 * 2 ^ min (wr .i64 (32 - r1)).toNat 32)))
noncomputable def M.addr_Network (a0 : Int) (a1 : Int) : Option TPrefix :=
  (M.addr_Mask a1).bind fun r1 => (M.addr_clamp a1).bind fun r2 => some (⟨bitD .and .u32 a0 r1, r2⟩ : TPrefix)
noncomputable def M.addr_Contains (a0 : TPrefix) (a1 : Int) : Option Bool :=
  (M.addr_Mask a0.fLen).bind fun r1 => some ((bitD .and .u32 a1 r1) == a0.fAddr)
noncomputable def M.addr_Covers (a0 : TPrefix) (a1 : TPrefix) : Option Bool :=
  (gc (decide (a0.fLen ≤ a1.fLen)) (M.addr_Contains a0 a1.fAddr)).bind fun r1 => some ((decide (a0.fLen ≤ a1.fLen)) && r1)
noncomputable def M.addr_Overlaps (a0 : TPrefix) (a1 : TPrefix) : Option Bool :=
  (M.addr_Covers a0 a1).bind fun r1 => (gc (!r1) (M.addr_Covers a1 a0)).bind fun r2 => some (r1 || r2)
noncomputable def M.model_checkInterfaces_l2 (a0 : TRouter) (p1 : Int) (p6 : Int) : Option (Int ⊕ (Unit ⊕ Int)) :=
  bif decide (p6 < ((p1.toNat - 0 : Nat) : Int)) then (gd [decide (0 ≤ p6), decide (p6 < (((a0.fInterfaces.drop 0).take (p1.toNat - 0)).length : Int))] ((gc ((((a0.fInterfaces.getD p1.toNat default).fLen) != 0) && (((((a0.fInterfaces.drop 0).take (p1.toNat - 0)).getD p6.toNat default).fLen) != 0)) (M.addr_Network ((a0.fInterfaces.getD p1.toNat default).fAddr) ((a0.fInterfaces.getD p1.toNat default).fLen))).bind fun r8 => (gc ((((a0.fInterfaces.getD p1.toNat default).fLen) != 0) && (((((a0.fInterfaces.drop 0).take (p1.toNat - 0)).getD p6.toNat default).fLen) != 0)) (M.addr_Network ((((a0.fInterfaces.drop 0).take (p1.toNat - 0)).getD p6.toNat default).fAddr) ((((a0.fInterfaces.drop 0).take (p1.toNat - 0)).getD p6.toNat default).fLen))).bind fun r9 => (gc ((((a0.fInterfaces.getD p1.toNat default).fLen) != 0) && (((((a0.fInterfaces.drop 0).take (p1.toNat - 0)).getD p6.toNat default).fLen) != 0)) (M.addr_Overlaps r8 r9)).bind fun r10 => bif ((((a0.fInterfaces.getD p1.toNat default).fLen) != 0) && (((((a0.fInterfaces.drop 0).take (p1.toNat - 0)).getD p6.toNat default).fLen) != 0)) && r10 then (some (.inr (.inr 6))) else (some (.inl (wr .i64 (p6 + 1)))))) else (some (.inr (.inl ())))
noncomputable def M.model_checkInterfaces_l1 (a0 : TRouter) (p1 : Int) : Option (Int ⊕ (Unit ⊕ Int)) :=
  bif decide (p1 < (a0.fInterfaces.length : Int)) then (gd [decide (0 ≤ p1), decide (p1 < (a0.fInterfaces.length : Int))] ((M.scan_Name ((a0.fInterfaces.getD p1.toNat default).fName)).bind fun r3 => bif !r3 then (some (.inr (.inr 3))) else ((M.model_Interface a0 ((a0.fInterfaces.getD p1.toNat default).fName)).bind fun r4 => bif decide (r4 < p1) then (some (.inr (.inr 4))) else ((M.model_rightInterface (a0.fInterfaces.getD p1.toNat default)).bind fun r5 => bif !r5 then (some (.inr (.inr 1))) else (gd [decide (0 ≤ p1), decide (p1 ≤ (a0.fInterfaces.length : Int))] ((loopM (M.model_checkInterfaces_l2 a0 p1) 0).bind fun y11 => Sum.elim (fun _ => some (.inl (wr .i64 (p1 + 1)))) (fun y13 => some (.inr (.inr y13))) y11)))))) else (some (.inr (.inl ())))
noncomputable def M.model_checkInterfaces (a0 : TRouter) : Option Int :=
  bif decide ((a0.fInterfaces.length : Int) > 8) then (some 7) else ((loopM (M.model_checkInterfaces_l1 a0) 0).bind fun y14 => Sum.elim (fun _ => some 0) (fun y16 => some y16) y14)
noncomputable def M.model_PrefixList_1 (a0 : TPrefixList) (b0 : ByteArray) : Option Bool :=
  some (strEq a0.fName b0)
noncomputable def M.slices_IndexFunc_api_PrefixList_api_PrefixList__model_PrefixList_1_l1 (a0 : List TPrefixList) (a1c0 : ByteArray) (p1 : Int) : Option (Int ⊕ (Unit ⊕ Int)) :=
  bif decide (p1 < (a0.length : Int)) then ((M.model_PrefixList_1 (a0.getD p1.toNat default) a1c0).bind fun r3 => gd [decide (0 ≤ p1), decide (p1 < (a0.length : Int))] (bif r3 then (some (.inr (.inr p1))) else (some (.inl (wr .i64 (p1 + 1)))))) else (some (.inr (.inl ())))
noncomputable def M.slices_IndexFunc_api_PrefixList_api_PrefixList__model_PrefixList_1 (a0 : List TPrefixList) (a1c0 : ByteArray) : Option Int :=
  (loopM (M.slices_IndexFunc_api_PrefixList_api_PrefixList__model_PrefixList_1_l1 a0 a1c0) 0).bind fun y4 => Sum.elim (fun _ => some (-1)) (fun y6 => some y6) y4
noncomputable def M.model_PrefixList (a0 : TRouter) (a1 : ByteArray) : Option Int :=
  (M.slices_IndexFunc_api_PrefixList_api_PrefixList__model_PrefixList_1 a0.fLists a1).bind fun r1 => some r1
noncomputable def M.model_checkList (a0 : Int) (a1 : Int) (a2 : ByteArray) (a3 : Int) (a4 : Int) : Option Int :=
  (M.scan_Name a2).bind fun r1 => bif !r1 then (some 3) else (bif decide (a1 < a0) then (some 4) else (bif a3 == 0 then (some 1) else (bif decide (a3 > a4) then (some 7) else (some 0))))
noncomputable def M.addr_Valid (a0 : TPrefix) : Option Bool :=
  (gc ((decide (a0.fLen ≥ 0)) && (decide (a0.fLen ≤ 32))) (M.addr_Mask a0.fLen)).bind fun r1 => some (((decide (a0.fLen ≥ 0)) && (decide (a0.fLen ≤ 32))) && ((bitD .andNot .u32 a0.fAddr r1) == 0))
noncomputable def M.model_checkPrefixLists_l2 (a0 : TRouter) (p1 : Int) (p5 : Int) : Option (Int ⊕ (Unit ⊕ Int)) :=
  bif decide (p5 < (((a0.fLists.getD p1.toNat default).fRules).length : Int)) then (gd [decide (0 ≤ p5), decide (p5 < (((a0.fLists.getD p1.toNat default).fRules).length : Int))] ((M.addr_Valid ((((a0.fLists.getD p1.toNat default).fRules).getD p5.toNat default).fPrefix)).bind fun r7 => bif (((!r7) || (decide (((((a0.fLists.getD p1.toNat default).fRules).getD p5.toNat default).fMin) < (((((a0.fLists.getD p1.toNat default).fRules).getD p5.toNat default).fPrefix).fLen)))) || (decide (((((a0.fLists.getD p1.toNat default).fRules).getD p5.toNat default).fMax) < ((((a0.fLists.getD p1.toNat default).fRules).getD p5.toNat default).fMin)))) || (decide (((((a0.fLists.getD p1.toNat default).fRules).getD p5.toNat default).fMax) > 32)) then (some (.inr (.inr 1))) else (some (.inl (wr .i64 (p5 + 1)))))) else (some (.inr (.inl ())))
noncomputable def M.model_checkPrefixLists_l1 (a0 : TRouter) (p1 : Int) : Option (Int ⊕ (Unit ⊕ Int)) :=
  bif decide (p1 < (a0.fLists.length : Int)) then (gd [decide (0 ≤ p1), decide (p1 < (a0.fLists.length : Int))] ((M.model_PrefixList a0 ((a0.fLists.getD p1.toNat default).fName)).bind fun r3 => (M.model_checkList p1 r3 ((a0.fLists.getD p1.toNat default).fName) (((a0.fLists.getD p1.toNat default).fRules).length : Int) 16).bind fun r4 => bif r4 != 0 then (some (.inr (.inr r4))) else ((loopM (M.model_checkPrefixLists_l2 a0 p1) 0).bind fun y8 => Sum.elim (fun _ => some (.inl (wr .i64 (p1 + 1)))) (fun y10 => some (.inr (.inr y10))) y8))) else (some (.inr (.inl ())))
noncomputable def M.model_checkPrefixLists (a0 : TRouter) : Option Int :=
  bif decide ((a0.fLists.length : Int) > 8) then (some 7) else ((loopM (M.model_checkPrefixLists_l1 a0) 0).bind fun y11 => Sum.elim (fun _ => some 0) (fun y13 => some y13) y11)
noncomputable def M.model_RouteMap_1 (a0 : TRouteMap) (b0 : ByteArray) : Option Bool :=
  some (strEq a0.fName b0)
noncomputable def M.slices_IndexFunc_api_RouteMap_api_RouteMap__model_RouteMap_1_l1 (a0 : List TRouteMap) (a1c0 : ByteArray) (p1 : Int) : Option (Int ⊕ (Unit ⊕ Int)) :=
  bif decide (p1 < (a0.length : Int)) then ((M.model_RouteMap_1 (a0.getD p1.toNat default) a1c0).bind fun r3 => gd [decide (0 ≤ p1), decide (p1 < (a0.length : Int))] (bif r3 then (some (.inr (.inr p1))) else (some (.inl (wr .i64 (p1 + 1)))))) else (some (.inr (.inl ())))
noncomputable def M.slices_IndexFunc_api_RouteMap_api_RouteMap__model_RouteMap_1 (a0 : List TRouteMap) (a1c0 : ByteArray) : Option Int :=
  (loopM (M.slices_IndexFunc_api_RouteMap_api_RouteMap__model_RouteMap_1_l1 a0 a1c0) 0).bind fun y4 => Sum.elim (fun _ => some (-1)) (fun y6 => some y6) y4
noncomputable def M.model_RouteMap (a0 : TRouter) (a1 : ByteArray) : Option Int :=
  (M.slices_IndexFunc_api_RouteMap_api_RouteMap__model_RouteMap_1 a0.fMaps a1).bind fun r1 => some r1
noncomputable def M.model_rightClause (a0 : TClause) : Option Bool :=
  (M.model_within a0.fTag (-1) 65535).bind fun r1 => (gc r1 (M.model_within a0.fSetMetric (-1) 16777215)).bind fun r2 => (gc (r1 && r2) (M.model_within a0.fSetTag (-1) 65535)).bind fun r3 => (gc ((r1 && r2) && r3) (M.model_within a0.fSetPref (-1) 1000000)).bind fun r4 => (gc (((r1 && r2) && r3) && r4) (M.model_within a0.fPrepend 0 8)).bind fun r5 => some ((((r1 && r2) && r3) && r4) && r5)
noncomputable def M.model_checkRouteMaps_l2 (a0 : TRouter) (p1 : Int) (p5 : Int) : Option (Int ⊕ (Unit ⊕ Int)) :=
  bif decide (p5 < (((a0.fMaps.getD p1.toNat default).fClauses).length : Int)) then (gd [decide (0 ≤ p5), decide (p5 < (((a0.fMaps.getD p1.toNat default).fClauses).length : Int))] ((gc (!strEq ((((a0.fMaps.getD p1.toNat default).fClauses).getD p5.toNat default).fList) (⟨#[]⟩ : ByteArray)) (M.model_PrefixList a0 ((((a0.fMaps.getD p1.toNat default).fClauses).getD p5.toNat default).fList))).bind fun r7 => bif (!strEq ((((a0.fMaps.getD p1.toNat default).fClauses).getD p5.toNat default).fList) (⟨#[]⟩ : ByteArray)) && (decide (r7 < 0)) then (some (.inr (.inr 5))) else ((M.model_rightClause (((a0.fMaps.getD p1.toNat default).fClauses).getD p5.toNat default)).bind fun r8 => bif !r8 then (some (.inr (.inr 1))) else (some (.inl (wr .i64 (p5 + 1))))))) else (some (.inr (.inl ())))
noncomputable def M.model_checkRouteMaps_l1 (a0 : TRouter) (p1 : Int) : Option (Int ⊕ (Unit ⊕ Int)) :=
  bif decide (p1 < (a0.fMaps.length : Int)) then (gd [decide (0 ≤ p1), decide (p1 < (a0.fMaps.length : Int))] ((M.model_RouteMap a0 ((a0.fMaps.getD p1.toNat default).fName)).bind fun r3 => (M.model_checkList p1 r3 ((a0.fMaps.getD p1.toNat default).fName) (((a0.fMaps.getD p1.toNat default).fClauses).length : Int) 8).bind fun r4 => bif r4 != 0 then (some (.inr (.inr r4))) else ((loopM (M.model_checkRouteMaps_l2 a0 p1) 0).bind fun y9 => Sum.elim (fun _ => some (.inl (wr .i64 (p1 + 1)))) (fun y11 => some (.inr (.inr y11))) y9))) else (some (.inr (.inl ())))
noncomputable def M.model_checkRouteMaps (a0 : TRouter) : Option Int :=
  bif decide ((a0.fMaps.length : Int) > 8) then (some 7) else ((loopM (M.model_checkRouteMaps_l1 a0) 0).bind fun y12 => Sum.elim (fun _ => some 0) (fun y14 => some y14) y12)
noncomputable def M.model_ACL_1 (a0 : TACL) (b0 : ByteArray) : Option Bool :=
  some (strEq a0.fName b0)
noncomputable def M.slices_IndexFunc_api_ACL_api_ACL__model_ACL_1_l1 (a0 : List TACL) (a1c0 : ByteArray) (p1 : Int) : Option (Int ⊕ (Unit ⊕ Int)) :=
  bif decide (p1 < (a0.length : Int)) then ((M.model_ACL_1 (a0.getD p1.toNat default) a1c0).bind fun r3 => gd [decide (0 ≤ p1), decide (p1 < (a0.length : Int))] (bif r3 then (some (.inr (.inr p1))) else (some (.inl (wr .i64 (p1 + 1)))))) else (some (.inr (.inl ())))
noncomputable def M.slices_IndexFunc_api_ACL_api_ACL__model_ACL_1 (a0 : List TACL) (a1c0 : ByteArray) : Option Int :=
  (loopM (M.slices_IndexFunc_api_ACL_api_ACL__model_ACL_1_l1 a0 a1c0) 0).bind fun y4 => Sum.elim (fun _ => some (-1)) (fun y6 => some y6) y4
noncomputable def M.model_ACL (a0 : TRouter) (a1 : ByteArray) : Option Int :=
  (M.slices_IndexFunc_api_ACL_api_ACL__model_ACL_1 a0.fACLs a1).bind fun r1 => some r1
noncomputable def M.model_rightPorts (a0 : TPortRange) : Option Bool :=
  some (((decide (0 ≤ a0.fLo)) && (decide (a0.fLo ≤ a0.fHi))) && (decide (a0.fHi ≤ 65535)))
noncomputable def M.model_rightRule (a0 : TRule) : Option Bool :=
  (M.model_within a0.fProto (-1) 255).bind fun r1 => bif ((!r1) || ((bitD .and .u32 a0.fSrc.fAddr a0.fSrc.fMask) != 0)) || ((bitD .and .u32 a0.fDst.fAddr a0.fDst.fMask) != 0) then (some false) else ((M.model_rightPorts a0.fSrcPorts).bind fun r2 => (gc (!(!r2)) (M.model_rightPorts a0.fDstPorts)).bind fun r3 => bif (!r2) || (!r3) then (some false) else (some (((a0.fProto == 6) || (a0.fProto == 17)) || (((a0.fSrcPorts.fLo == 0) && ((a0.fSrcPorts.fHi == 65535) && true)) && ((a0.fDstPorts.fLo == 0) && ((a0.fDstPorts.fHi == 65535) && true))))))
noncomputable def M.model_checkACLs_l2 (a0 : TRouter) (p1 : Int) (p5 : Int) : Option (Int ⊕ (Unit ⊕ Int)) :=
  bif decide (p5 < (((a0.fACLs.getD p1.toNat default).fRules).length : Int)) then (gd [decide (0 ≤ p5), decide (p5 < (((a0.fACLs.getD p1.toNat default).fRules).length : Int))] ((M.model_rightRule (((a0.fACLs.getD p1.toNat default).fRules).getD p5.toNat default)).bind fun r7 => bif !r7 then (some (.inr (.inr 1))) else (some (.inl (wr .i64 (p5 + 1)))))) else (some (.inr (.inl ())))
noncomputable def M.model_checkACLs_l1 (a0 : TRouter) (p1 : Int) : Option (Int ⊕ (Unit ⊕ Int)) :=
  bif decide (p1 < (a0.fACLs.length : Int)) then (gd [decide (0 ≤ p1), decide (p1 < (a0.fACLs.length : Int))] ((M.model_ACL a0 ((a0.fACLs.getD p1.toNat default).fName)).bind fun r3 => (M.model_checkList p1 r3 ((a0.fACLs.getD p1.toNat default).fName) (((a0.fACLs.getD p1.toNat default).fRules).length : Int) 16).bind fun r4 => bif r4 != 0 then (some (.inr (.inr r4))) else ((loopM (M.model_checkACLs_l2 a0 p1) 0).bind fun y8 => Sum.elim (fun _ => some (.inl (wr .i64 (p1 + 1)))) (fun y10 => some (.inr (.inr y10))) y8))) else (some (.inr (.inl ())))
noncomputable def M.model_checkACLs (a0 : TRouter) : Option Int :=
  bif decide ((a0.fACLs.length : Int) > 8) then (some 7) else ((loopM (M.model_checkACLs_l1 a0) 0).bind fun y11 => Sum.elim (fun _ => some 0) (fun y13 => some y13) y11)
noncomputable def M.model_rightTranslation (a0 : TTranslation) : Option Bool :=
  bif a0.fKind == 1 then (some ((((a0.fKind == a0.fKind) && ((a0.fInside == a0.fInside) && ((a0.fOutside == a0.fOutside) && ((a0.fProto == 0) && ((a0.fInsidePort == 0) && ((a0.fOutsidePort == 0) && (strEq a0.fList (⟨#[]⟩ : ByteArray) && ((a0.fLo == 0) && ((a0.fHi == 0) && true))))))))) && (a0.fInside != 0)) && (a0.fOutside != 0))) else (bif a0.fKind == 2 then (some (((((a0.fKind == a0.fKind) && ((a0.fInside == 0) && ((a0.fOutside == 0) && ((a0.fProto == 0) && ((a0.fInsidePort == 0) && ((a0.fOutsidePort == 0) && (strEq a0.fList a0.fList && ((a0.fLo == a0.fLo) && ((a0.fHi == a0.fHi) && true))))))))) && (a0.fLo != 0)) && (decide (a0.fLo ≤ a0.fHi))) && (decide ((wr .u32 (a0.fHi - a0.fLo)) < 8)))) else (bif a0.fKind == 3 then ((gc (((a0.fInside != 0) && (a0.fOutside != 0)) && ((a0.fProto == 6) || (a0.fProto == 17))) (M.model_within a0.fInsidePort 0 65535)).bind fun r1 => (gc ((((a0.fInside != 0) && (a0.fOutside != 0)) && ((a0.fProto == 6) || (a0.fProto == 17))) && r1) (M.model_within a0.fOutsidePort 0 65535)).bind fun r2 => some ((((((((a0.fInside != 0) && (a0.fOutside != 0)) && ((a0.fProto == 6) || (a0.fProto == 17))) && r1) && r2) && (strEq a0.fList (⟨#[]⟩ : ByteArray))) && (a0.fLo == 0)) && (a0.fHi == 0))) else (some false)))
noncomputable def M.model_checkNAT_l1 (a0 : TRouter) (p1 : Int) : Option (Int ⊕ (Unit ⊕ Int)) :=
  bif decide (p1 < (a0.fNAT.length : Int)) then (gd [decide (0 ≤ p1), decide (p1 < (a0.fNAT.length : Int))] ((M.model_rightTranslation (a0.fNAT.getD p1.toNat default)).bind fun r3 => bif !r3 then (some (.inr (.inr 1))) else ((gc (((a0.fNAT.getD p1.toNat default).fKind) == 2) (M.model_ACL a0 ((a0.fNAT.getD p1.toNat default).fList))).bind fun r4 => bif (((a0.fNAT.getD p1.toNat default).fKind) == 2) && (decide (r4 < 0)) then (some (.inr (.inr 5))) else (some (.inl (wr .i64 (p1 + 1))))))) else (some (.inr (.inl ())))
noncomputable def M.model_checkNAT (a0 : TRouter) : Option Int :=
  bif decide ((a0.fNAT.length : Int) > 8) then (some 7) else ((loopM (M.model_checkNAT_l1 a0) 0).bind fun y5 => Sum.elim (fun _ => some 0) (fun y7 => some y7) y5)
noncomputable def M.model_checkFilters_l1 (a0 : TRouter) (p1 : Int) : Option (Int ⊕ (Unit ⊕ Int)) :=
  bif decide (p1 < (a0.fInterfaces.length : Int)) then (gd [decide (0 ≤ p1), decide (p1 < (a0.fInterfaces.length : Int))] ((gc (!strEq ((a0.fInterfaces.getD p1.toNat default).fIn) (⟨#[]⟩ : ByteArray)) (M.model_ACL a0 ((a0.fInterfaces.getD p1.toNat default).fIn))).bind fun r3 => (gc ((!((!strEq ((a0.fInterfaces.getD p1.toNat default).fIn) (⟨#[]⟩ : ByteArray)) && (decide (r3 < 0)))) && (!strEq ((a0.fInterfaces.getD p1.toNat default).fOut) (⟨#[]⟩ : ByteArray))) (M.model_ACL a0 ((a0.fInterfaces.getD p1.toNat default).fOut))).bind fun r4 => bif ((!strEq ((a0.fInterfaces.getD p1.toNat default).fIn) (⟨#[]⟩ : ByteArray)) && (decide (r3 < 0))) || ((!strEq ((a0.fInterfaces.getD p1.toNat default).fOut) (⟨#[]⟩ : ByteArray)) && (decide (r4 < 0))) then (some (.inr (.inr 5))) else (some (.inl (wr .i64 (p1 + 1)))))) else (some (.inr (.inl ())))
noncomputable def M.model_checkFilters (a0 : TRouter) : Option Int :=
  (loopM (M.model_checkFilters_l1 a0) 0).bind fun y5 => Sum.elim (fun _ => some 0) (fun y7 => some y7) y5
noncomputable def M.model_Address_1 (a0 : TInterface) (b0 : Int) : Option Bool :=
  some ((a0.fLen != 0) && (a0.fAddr == b0))
noncomputable def M.slices_IndexFunc_api_Interface_api_Interface__model_Address_1_l1 (a0 : List TInterface) (a1c0 : Int) (p1 : Int) : Option (Int ⊕ (Unit ⊕ Int)) :=
  bif decide (p1 < (a0.length : Int)) then ((M.model_Address_1 (a0.getD p1.toNat default) a1c0).bind fun r3 => gd [decide (0 ≤ p1), decide (p1 < (a0.length : Int))] (bif r3 then (some (.inr (.inr p1))) else (some (.inl (wr .i64 (p1 + 1)))))) else (some (.inr (.inl ())))
noncomputable def M.slices_IndexFunc_api_Interface_api_Interface__model_Address_1 (a0 : List TInterface) (a1c0 : Int) : Option Int :=
  (loopM (M.slices_IndexFunc_api_Interface_api_Interface__model_Address_1_l1 a0 a1c0) 0).bind fun y4 => Sum.elim (fun _ => some (-1)) (fun y6 => some y6) y4
noncomputable def M.model_Address (a0 : TRouter) (a1 : Int) : Option Int :=
  (M.slices_IndexFunc_api_Interface_api_Interface__model_Address_1 a0.fInterfaces a1).bind fun r1 => some r1
noncomputable def M.model_rightStatic_k1 (p1 : Int × Int) (p3 : Int) : Option ((Int × Int) ⊕ Int) :=
  some (.inl (p3, wr .i64 (p1.2 + 1)))
noncomputable def M.model_rightStatic_l1 (a1 : TStaticRoute) (p1 : Int × Int) : Option ((Int × Int) ⊕ Int) :=
  bif decide (p1.2 < 3) then (gd [decide (0 ≤ p1.2), decide (p1.2 < (([a1.fNext != 0, !strEq a1.fIface (⟨#[]⟩ : ByteArray), a1.fDiscard] : List Bool).length : Int))] (bif ([a1.fNext != 0, !strEq a1.fIface (⟨#[]⟩ : ByteArray), a1.fDiscard] : List Bool).getD p1.2.toNat default then (M.model_rightStatic_k1 p1 (wr .i64 (p1.1 + 1))) else (M.model_rightStatic_k1 p1 p1.1))) else (some (.inr p1.1))
noncomputable def M.model_rightStatic (a0 : TRouter) (a1 : TStaticRoute) : Option Bool :=
  (loopM (M.model_rightStatic_l1 a1) (0, 0)).bind fun y4 => (M.addr_Valid a1.fPrefix).bind fun r5 => (gc ((r5 && (y4 == 1)) && !(a1.fNext == 0)) (M.model_Address a0 a1.fNext)).bind fun r6 => (gc ((r5 && (y4 == 1)) && ((a1.fNext == 0) || (decide (r6 < 0)))) (M.model_within a1.fAdmin 1 255)).bind fun r7 => (gc (((r5 && (y4 == 1)) && ((a1.fNext == 0) || (decide (r6 < 0)))) && r7) (M.model_within a1.fTag 0 65535)).bind fun r8 => some ((((r5 && (y4 == 1)) && ((a1.fNext == 0) || (decide (r6 < 0)))) && r7) && r8)
noncomputable def M.model_checkStatics_l2 (a0 : TRouter) (p1 : Int) (p5 : Int) : Option (Int ⊕ (Unit ⊕ Int)) :=
  bif decide (p5 < ((p1.toNat - 0 : Nat) : Int)) then (gd [decide (0 ≤ p5), decide (p5 < (((a0.fStatics.drop 0).take (p1.toNat - 0)).length : Int))] (bif (((((((a0.fStatics.drop 0).take (p1.toNat - 0)).getD p5.toNat default).fPrefix).fAddr) == (((a0.fStatics.getD p1.toNat default).fPrefix).fAddr)) && (((((((a0.fStatics.drop 0).take (p1.toNat - 0)).getD p5.toNat default).fPrefix).fLen) == (((a0.fStatics.getD p1.toNat default).fPrefix).fLen)) && true)) && (((((a0.fStatics.drop 0).take (p1.toNat - 0)).getD p5.toNat default).fAdmin) == ((a0.fStatics.getD p1.toNat default).fAdmin)) then (some (.inr (.inr 6))) else (some (.inl (wr .i64 (p5 + 1)))))) else (some (.inr (.inl ())))
noncomputable def M.model_checkStatics_k1 (a0 : TRouter) (p1 : Int) (_p4 : Unit) : Option (Int ⊕ (Unit ⊕ Int)) :=
  gd [decide (0 ≤ p1), decide (p1 ≤ (a0.fStatics.length : Int))] ((loopM (M.model_checkStatics_l2 a0 p1) 0).bind fun y7 => Sum.elim (fun _ => some (.inl (wr .i64 (p1 + 1)))) (fun y9 => some (.inr (.inr y9))) y7)
noncomputable def M.model_checkStatics_l1 (a0 : TRouter) (p1 : Int) : Option (Int ⊕ (Unit ⊕ Int)) :=
  bif decide (p1 < (a0.fStatics.length : Int)) then (gd [decide (0 ≤ p1), decide (p1 < (a0.fStatics.length : Int))] ((M.model_rightStatic a0 (a0.fStatics.getD p1.toNat default)).bind fun r3 => bif !r3 then (some (.inr (.inr 1))) else (bif !strEq ((a0.fStatics.getD p1.toNat default).fIface) (⟨#[]⟩ : ByteArray) then ((M.model_Interface a0 ((a0.fStatics.getD p1.toNat default).fIface)).bind fun r10 => bif decide (r10 < 0) then (some (.inr (.inr 5))) else (gd [decide (0 ≤ r10), decide (r10 < (a0.fInterfaces.length : Int))] (bif ((a0.fInterfaces.getD r10.toNat default).fLen) == 0 then (some (.inr (.inr 1))) else (M.model_checkStatics_k1 a0 p1 ())))) else (M.model_checkStatics_k1 a0 p1 ())))) else (some (.inr (.inl ())))
noncomputable def M.model_checkStatics (a0 : TRouter) : Option Int :=
  bif decide ((a0.fStatics.length : Int) > 16) then (some 7) else ((loopM (M.model_checkStatics_l1 a0) 0).bind fun y11 => Sum.elim (fun _ => some 0) (fun y13 => some y13) y11)
noncomputable def M.model_checkRedist_l2 (a1 : List TRedist) (p1 : Int) (p8 : Int) : Option (Int ⊕ (Unit ⊕ Int)) :=
  bif decide (p8 < ((p1.toNat - 0 : Nat) : Int)) then (gd [decide (0 ≤ p8), decide (p8 < (((a1.drop 0).take (p1.toNat - 0)).length : Int))] (bif ((((a1.drop 0).take (p1.toNat - 0)).getD p8.toNat default).fFrom) == ((a1.getD p1.toNat default).fFrom) then (some (.inr (.inr 4))) else (some (.inl (wr .i64 (p8 + 1)))))) else (some (.inr (.inl ())))
noncomputable def M.model_checkRedist_l1 (a0 : TRouter) (a1 : List TRedist) (a2 : Int) (a3 : Int) (a4 : Int) (a5 : Int) (p1 : Int) : Option (Int ⊕ (Unit ⊕ Int)) :=
  bif decide (p1 < (a1.length : Int)) then (gd [decide (0 ≤ p1), decide (p1 < (a1.length : Int))] ((M.model_within ((a1.getD p1.toNat default).fFrom) 1 5).bind fun r3 => (gc (!((!r3) || (((a1.getD p1.toNat default).fFrom) == a2))) (M.model_within ((a1.getD p1.toNat default).fMetric) a3 a4)).bind fun r4 => (gc (!(((!r3) || (((a1.getD p1.toNat default).fFrom) == a2)) || (!r4))) (M.model_within ((a1.getD p1.toNat default).fTag) 0 65535)).bind fun r5 => (gc (!((((!r3) || (((a1.getD p1.toNat default).fFrom) == a2)) || (!r4)) || (!r5))) (M.model_within ((a1.getD p1.toNat default).fType) (if a5 < 1 then a5 else 1) a5)).bind fun r6 => bif ((((!r3) || (((a1.getD p1.toNat default).fFrom) == a2)) || (!r4)) || (!r5)) || (!r6) then (some (.inr (.inr 1))) else ((gc (!strEq ((a1.getD p1.toNat default).fMap) (⟨#[]⟩ : ByteArray)) (M.model_RouteMap a0 ((a1.getD p1.toNat default).fMap))).bind fun r7 => bif (!strEq ((a1.getD p1.toNat default).fMap) (⟨#[]⟩ : ByteArray)) && (decide (r7 < 0)) then (some (.inr (.inr 5))) else (gd [decide (0 ≤ p1), decide (p1 ≤ (a1.length : Int))] ((loopM (M.model_checkRedist_l2 a1 p1) 0).bind fun y10 => Sum.elim (fun _ => some (.inl (wr .i64 (p1 + 1)))) (fun y12 => some (.inr (.inr y12))) y10))))) else (some (.inr (.inl ())))
noncomputable def M.model_checkRedist (a0 : TRouter) (a1 : List TRedist) (a2 : Int) (a3 : Int) (a4 : Int) (a5 : Int) : Option Int :=
  bif decide ((a1.length : Int) > 4) then (some 7) else ((loopM (M.model_checkRedist_l1 a0 a1 a2 a3 a4 a5) 0).bind fun y13 => Sum.elim (fun _ => some 0) (fun y15 => some y15) y13)
noncomputable def M.model_checkLinkState_l2 (a0 : TRouter) (p2 : Int) (p6 : Int) : Option (Int ⊕ (Unit ⊕ Int)) :=
  bif decide (p6 < ((p2.toNat - 0 : Nat) : Int)) then (gd [decide (0 ≤ p6), decide (p6 < (((a0.fLS.fRanges.drop 0).take (p2.toNat - 0)).length : Int))] ((gc (((((a0.fLS.fRanges.drop 0).take (p2.toNat - 0)).getD p6.toNat default).fArea) == ((a0.fLS.fRanges.getD p2.toNat default).fArea)) (M.addr_Overlaps ((((a0.fLS.fRanges.drop 0).take (p2.toNat - 0)).getD p6.toNat default).fPrefix) ((a0.fLS.fRanges.getD p2.toNat default).fPrefix))).bind fun r8 => bif (((((a0.fLS.fRanges.drop 0).take (p2.toNat - 0)).getD p6.toNat default).fArea) == ((a0.fLS.fRanges.getD p2.toNat default).fArea)) && r8 then (some (.inr (.inr 6))) else (some (.inl (wr .i64 (p6 + 1)))))) else (some (.inr (.inl ())))
noncomputable def M.model_checkLinkState_l1 (a0 : TRouter) (p2 : Int) : Option (Int ⊕ (Unit ⊕ Int)) :=
  bif decide (p2 < (a0.fLS.fRanges.length : Int)) then (gd [decide (0 ≤ p2), decide (p2 < (a0.fLS.fRanges.length : Int))] ((M.model_within ((a0.fLS.fRanges.getD p2.toNat default).fArea) 0 255).bind fun r4 => (gc (!(!r4)) (M.addr_Valid ((a0.fLS.fRanges.getD p2.toNat default).fPrefix))).bind fun r5 => bif (!r4) || (!r5) then (some (.inr (.inr 1))) else (gd [decide (0 ≤ p2), decide (p2 ≤ (a0.fLS.fRanges.length : Int))] ((loopM (M.model_checkLinkState_l2 a0 p2) 0).bind fun y9 => Sum.elim (fun _ => some (.inl (wr .i64 (p2 + 1)))) (fun y11 => some (.inr (.inr y11))) y9)))) else (some (.inr (.inl ())))
noncomputable def M.model_checkLinkState (a0 : TRouter) : Option Int :=
  bif !a0.fLS.fOn then (bif ((a0.fLS.fAdmin != 0) || (decide ((a0.fLS.fRanges.length : Int) > 0))) || (decide ((a0.fLS.fRedist.length : Int) > 0)) then (some 1) else (some 0)) else ((M.model_within a0.fLS.fAdmin 1 255).bind fun r1 => bif !r1 then (some 1) else (bif decide ((a0.fLS.fRanges.length : Int) > 4) then (some 7) else ((loopM (M.model_checkLinkState_l1 a0) 0).bind fun y12 => Sum.elim (fun _ => (M.model_checkRedist a0 a0.fLS.fRedist 3 0 16777215 2).bind fun r15 => some r15) (fun y14 => some y14) y12)))
noncomputable def M.model_checkDistanceVector (a0 : TRouter) : Option Int :=
  bif !a0.fDV.fOn then (bif (((a0.fDV.fAdmin != 0) || (!strEq a0.fDV.fIn (⟨#[]⟩ : ByteArray))) || (!strEq a0.fDV.fOut (⟨#[]⟩ : ByteArray))) || (decide ((a0.fDV.fRedist.length : Int) > 0)) then (some 1) else (some 0)) else ((M.model_within a0.fDV.fAdmin 1 255).bind fun r1 => bif !r1 then (some 1) else ((gc (!strEq a0.fDV.fIn (⟨#[]⟩ : ByteArray)) (M.model_PrefixList a0 a0.fDV.fIn)).bind fun r2 => (gc ((!((!strEq a0.fDV.fIn (⟨#[]⟩ : ByteArray)) && (decide (r2 < 0)))) && (!strEq a0.fDV.fOut (⟨#[]⟩ : ByteArray))) (M.model_PrefixList a0 a0.fDV.fOut)).bind fun r3 => bif ((!strEq a0.fDV.fIn (⟨#[]⟩ : ByteArray)) && (decide (r2 < 0))) || ((!strEq a0.fDV.fOut (⟨#[]⟩ : ByteArray)) && (decide (r3 < 0))) then (some 5) else ((M.model_checkRedist a0 a0.fDV.fRedist 4 1 15 0).bind fun r4 => some r4)))
noncomputable def M.model_checkNeighbors_l2 (a0 : TRouter) (p1 : Int) (p6 : Int) : Option (Int ⊕ (Unit ⊕ Int)) :=
  bif decide (p6 < ((p1.toNat - 0 : Nat) : Int)) then (gd [decide (0 ≤ p6), decide (p6 < (((a0.fPV.fNeighbors.drop 0).take (p1.toNat - 0)).length : Int))] (bif ((((a0.fPV.fNeighbors.drop 0).take (p1.toNat - 0)).getD p6.toNat default).fAddr) == ((a0.fPV.fNeighbors.getD p1.toNat default).fAddr) then (some (.inr (.inr 4))) else (some (.inl (wr .i64 (p6 + 1)))))) else (some (.inr (.inl ())))
noncomputable def M.model_checkNeighbors_l1 (a0 : TRouter) (p1 : Int) : Option (Int ⊕ (Unit ⊕ Int)) :=
  bif decide (p1 < (a0.fPV.fNeighbors.length : Int)) then (gd [decide (0 ≤ p1), decide (p1 < (a0.fPV.fNeighbors.length : Int))] ((gc (!(((a0.fPV.fNeighbors.getD p1.toNat default).fAddr) == 0)) (M.model_within ((a0.fPV.fNeighbors.getD p1.toNat default).fAS) 1 65535)).bind fun r3 => bif (((a0.fPV.fNeighbors.getD p1.toNat default).fAddr) == 0) || (!r3) then (some (.inr (.inr 1))) else ((gc (!strEq ((a0.fPV.fNeighbors.getD p1.toNat default).fIn) (⟨#[]⟩ : ByteArray)) (M.model_RouteMap a0 ((a0.fPV.fNeighbors.getD p1.toNat default).fIn))).bind fun r4 => (gc ((!((!strEq ((a0.fPV.fNeighbors.getD p1.toNat default).fIn) (⟨#[]⟩ : ByteArray)) && (decide (r4 < 0)))) && (!strEq ((a0.fPV.fNeighbors.getD p1.toNat default).fOut) (⟨#[]⟩ : ByteArray))) (M.model_RouteMap a0 ((a0.fPV.fNeighbors.getD p1.toNat default).fOut))).bind fun r5 => bif ((!strEq ((a0.fPV.fNeighbors.getD p1.toNat default).fIn) (⟨#[]⟩ : ByteArray)) && (decide (r4 < 0))) || ((!strEq ((a0.fPV.fNeighbors.getD p1.toNat default).fOut) (⟨#[]⟩ : ByteArray)) && (decide (r5 < 0))) then (some (.inr (.inr 5))) else (gd [decide (0 ≤ p1), decide (p1 ≤ (a0.fPV.fNeighbors.length : Int))] ((loopM (M.model_checkNeighbors_l2 a0 p1) 0).bind fun y8 => Sum.elim (fun _ => some (.inl (wr .i64 (p1 + 1)))) (fun y10 => some (.inr (.inr y10))) y8))))) else (some (.inr (.inl ())))
noncomputable def M.model_checkNeighbors (a0 : TRouter) : Option Int :=
  bif decide ((a0.fPV.fNeighbors.length : Int) > 8) then (some 7) else ((loopM (M.model_checkNeighbors_l1 a0) 0).bind fun y11 => Sum.elim (fun _ => some 0) (fun y13 => some y13) y11)
noncomputable def M.slices_Index_api_Prefix_api_Prefix_l1 (a0 : List TPrefix) (a1 : TPrefix) (p1 : Int) : Option (Int ⊕ (Unit ⊕ Int)) :=
  bif decide (p1 < (a0.length : Int)) then (gd [decide (0 ≤ p1), decide (p1 < (a0.length : Int))] (bif ((a1.fAddr == ((a0.getD p1.toNat default).fAddr)) && ((a1.fLen == ((a0.getD p1.toNat default).fLen)) && true)) then (some (.inr (.inr p1))) else (some (.inl (wr .i64 (p1 + 1)))))) else (some (.inr (.inl ())))
noncomputable def M.slices_Index_api_Prefix_api_Prefix (a0 : List TPrefix) (a1 : TPrefix) : Option Int :=
  (loopM (M.slices_Index_api_Prefix_api_Prefix_l1 a0 a1) 0).bind fun y3 => Sum.elim (fun _ => some (-1)) (fun y5 => some y5) y3
noncomputable def M.slices_Contains_api_Prefix_api_Prefix (a0 : List TPrefix) (a1 : TPrefix) : Option Bool :=
  (M.slices_Index_api_Prefix_api_Prefix a0 a1).bind fun r1 => some (decide (r1 ≥ 0))
noncomputable def M.model_checkOrigins_l1 (a0 : TPathVector) (p1 : Int) : Option (Int ⊕ (Unit ⊕ Int)) :=
  bif decide (p1 < (a0.fNetworks.length : Int)) then (gd [decide (0 ≤ p1), decide (p1 < (a0.fNetworks.length : Int))] ((M.addr_Valid (a0.fNetworks.getD p1.toNat default)).bind fun r3 => bif !r3 then (some (.inr (.inr 1))) else ((M.slices_Contains_api_Prefix_api_Prefix ((a0.fNetworks.drop 0).take (p1.toNat - 0)) (a0.fNetworks.getD p1.toNat default)).bind fun r4 => gd [decide (0 ≤ p1), decide (p1 ≤ (a0.fNetworks.length : Int))] (bif r4 then (some (.inr (.inr 4))) else (some (.inl (wr .i64 (p1 + 1)))))))) else (some (.inr (.inl ())))
noncomputable def M.model_checkOrigins_l3 (a0 : TPathVector) (p8 : Int) (p11 : Int) : Option (Int ⊕ (Unit ⊕ Int)) :=
  bif decide (p11 < ((p8.toNat - 0 : Nat) : Int)) then (gd [decide (0 ≤ p11), decide (p11 < (((a0.fAggregates.drop 0).take (p8.toNat - 0)).length : Int))] (bif (((((((a0.fAggregates.drop 0).take (p8.toNat - 0)).getD p11.toNat default).fPrefix).fAddr) == (((a0.fAggregates.getD p8.toNat default).fPrefix).fAddr)) && (((((((a0.fAggregates.drop 0).take (p8.toNat - 0)).getD p11.toNat default).fPrefix).fLen) == (((a0.fAggregates.getD p8.toNat default).fPrefix).fLen)) && true)) then (some (.inr (.inr 4))) else (some (.inl (wr .i64 (p11 + 1)))))) else (some (.inr (.inl ())))
noncomputable def M.model_checkOrigins_l2 (a0 : TPathVector) (p8 : Int) : Option (Int ⊕ (Unit ⊕ Int)) :=
  bif decide (p8 < (a0.fAggregates.length : Int)) then (gd [decide (0 ≤ p8), decide (p8 < (a0.fAggregates.length : Int))] ((M.addr_Valid ((a0.fAggregates.getD p8.toNat default).fPrefix)).bind fun r10 => bif !r10 then (some (.inr (.inr 1))) else (gd [decide (0 ≤ p8), decide (p8 ≤ (a0.fAggregates.length : Int))] ((loopM (M.model_checkOrigins_l3 a0 p8) 0).bind fun y13 => Sum.elim (fun _ => some (.inl (wr .i64 (p8 + 1)))) (fun y15 => some (.inr (.inr y15))) y13)))) else (some (.inr (.inl ())))
noncomputable def M.model_checkOrigins_l5 (a0 : TPathVector) (p19 : Int) (p23 : Int) : Option (Int ⊕ (Unit ⊕ Int)) :=
  bif decide (p23 < ((p19.toNat - 0 : Nat) : Int)) then (gd [decide (0 ≤ p23), decide (p23 < (((a0.fConditions.drop 0).take (p19.toNat - 0)).length : Int))] (bif (((((((a0.fConditions.drop 0).take (p19.toNat - 0)).getD p23.toNat default).fPrefix).fAddr) == (((a0.fConditions.getD p19.toNat default).fPrefix).fAddr)) && (((((((a0.fConditions.drop 0).take (p19.toNat - 0)).getD p23.toNat default).fPrefix).fLen) == (((a0.fConditions.getD p19.toNat default).fPrefix).fLen)) && true)) then (some (.inr (.inr 4))) else (some (.inl (wr .i64 (p23 + 1)))))) else (some (.inr (.inl ())))
noncomputable def M.model_checkOrigins_l4 (a0 : TPathVector) (p19 : Int) : Option (Int ⊕ (Unit ⊕ Int)) :=
  bif decide (p19 < (a0.fConditions.length : Int)) then (gd [decide (0 ≤ p19), decide (p19 < (a0.fConditions.length : Int))] ((M.addr_Valid ((a0.fConditions.getD p19.toNat default).fPrefix)).bind fun r21 => (gc (!(!r21)) (M.addr_Valid ((a0.fConditions.getD p19.toNat default).fIf))).bind fun r22 => bif (!r21) || (!r22) then (some (.inr (.inr 1))) else (bif (((((a0.fConditions.getD p19.toNat default).fPrefix).fAddr) == (((a0.fConditions.getD p19.toNat default).fIf).fAddr)) && (((((a0.fConditions.getD p19.toNat default).fPrefix).fLen) == (((a0.fConditions.getD p19.toNat default).fIf).fLen)) && true)) then (some (.inr (.inr 6))) else (gd [decide (0 ≤ p19), decide (p19 ≤ (a0.fConditions.length : Int))] ((loopM (M.model_checkOrigins_l5 a0 p19) 0).bind fun y25 => Sum.elim (fun _ => some (.inl (wr .i64 (p19 + 1)))) (fun y27 => some (.inr (.inr y27))) y25))))) else (some (.inr (.inl ())))
noncomputable def M.model_checkOrigins (a0 : TPathVector) : Option Int :=
  bif decide ((a0.fNetworks.length : Int) > 8) then (some 7) else ((loopM (M.model_checkOrigins_l1 a0) 0).bind fun y5 => Sum.elim (fun _ => bif decide ((a0.fAggregates.length : Int) > 8) then (some 7) else ((loopM (M.model_checkOrigins_l2 a0) 0).bind fun y16 => Sum.elim (fun _ => bif decide ((a0.fConditions.length : Int) > 8) then (some 7) else ((loopM (M.model_checkOrigins_l4 a0) 0).bind fun y28 => Sum.elim (fun _ => some 0) (fun y30 => some y30) y28)) (fun y18 => some y18) y16)) (fun y7 => some y7) y5)
noncomputable def M.model_checkPathVector (a0 : TRouter) : Option Int :=
  bif !a0.fPV.fOn then (bif ((((((a0.fPV.fExternal != 0) || (a0.fPV.fInternal != 0)) || (decide ((a0.fPV.fNeighbors.length : Int) > 0))) || (decide ((a0.fPV.fNetworks.length : Int) > 0))) || (decide ((a0.fPV.fAggregates.length : Int) > 0))) || (decide ((a0.fPV.fConditions.length : Int) > 0))) || (decide ((a0.fPV.fRedist.length : Int) > 0)) then (some 1) else (some 0)) else ((gc (!(a0.fAS == 0)) (M.model_within a0.fPV.fExternal 1 255)).bind fun r1 => (gc (!((a0.fAS == 0) || (!r1))) (M.model_within a0.fPV.fInternal 1 255)).bind fun r2 => bif ((a0.fAS == 0) || (!r1)) || (!r2) then (some 1) else ((M.model_checkNeighbors a0).bind fun r3 => bif r3 != 0 then (some r3) else ((M.model_checkOrigins a0.fPV).bind fun r4 => bif r4 != 0 then (some r4) else ((M.model_checkRedist a0 a0.fPV.fRedist 5 0 16777215 0).bind fun r5 => some r5))))
noncomputable def M.model_CheckRouter (a0 : TRouter) : Option Int :=
  (M.scan_Name a0.fName).bind fun r1 => bif !r1 then (some 3) else ((M.model_within a0.fAS 0 65535).bind fun r2 => bif !r2 then (some 1) else (gd [decide (0 ≤ 0), decide (0 < (10 : Int))] ((M.model_checkInterfaces a0).bind fun r3 => bif r3 != 0 then (some r3) else (gd [decide (0 ≤ 1), decide (1 < (10 : Int))] ((M.model_checkPrefixLists a0).bind fun r4 => bif r4 != 0 then (some r4) else (gd [decide (0 ≤ 2), decide (2 < (10 : Int))] ((M.model_checkRouteMaps a0).bind fun r5 => bif r5 != 0 then (some r5) else (gd [decide (0 ≤ 3), decide (3 < (10 : Int))] ((M.model_checkACLs a0).bind fun r6 => bif r6 != 0 then (some r6) else (gd [decide (0 ≤ 4), decide (4 < (10 : Int))] ((M.model_checkNAT a0).bind fun r7 => bif r7 != 0 then (some r7) else (gd [decide (0 ≤ 5), decide (5 < (10 : Int))] ((M.model_checkFilters a0).bind fun r8 => bif r8 != 0 then (some r8) else (gd [decide (0 ≤ 6), decide (6 < (10 : Int))] ((M.model_checkStatics a0).bind fun r9 => bif r9 != 0 then (some r9) else (gd [decide (0 ≤ 7), decide (7 < (10 : Int))] ((M.model_checkLinkState a0).bind fun r10 => bif r10 != 0 then (some r10) else (gd [decide (0 ≤ 8), decide (8 < (10 : Int))] ((M.model_checkDistanceVector a0).bind fun r11 => bif r11 != 0 then (some r11) else (gd [decide (0 ≤ 9), decide (9 < (10 : Int))] ((M.model_checkPathVector a0).bind fun r12 => bif r12 != 0 then (some r12) else (some 0))))))))))))))))))))))
noncomputable def M.model_shareAddress_1 (a0 : TInterface) (b0 : TRouter) : Option Bool :=
  (gc (a0.fLen != 0) (M.model_Address b0 a0.fAddr)).bind fun r1 => some ((a0.fLen != 0) && (decide (r1 ≥ 0)))
noncomputable def M.slices_IndexFunc_api_Interface_api_Interface__model_shareAddress_1_l1 (a0 : List TInterface) (a1c0 : TRouter) (p1 : Int) : Option (Int ⊕ (Unit ⊕ Int)) :=
  bif decide (p1 < (a0.length : Int)) then ((M.model_shareAddress_1 (a0.getD p1.toNat default) a1c0).bind fun r3 => gd [decide (0 ≤ p1), decide (p1 < (a0.length : Int))] (bif r3 then (some (.inr (.inr p1))) else (some (.inl (wr .i64 (p1 + 1)))))) else (some (.inr (.inl ())))
noncomputable def M.slices_IndexFunc_api_Interface_api_Interface__model_shareAddress_1 (a0 : List TInterface) (a1c0 : TRouter) : Option Int :=
  (loopM (M.slices_IndexFunc_api_Interface_api_Interface__model_shareAddress_1_l1 a0 a1c0) 0).bind fun y4 => Sum.elim (fun _ => some (-1)) (fun y6 => some y6) y4
noncomputable def M.slices_ContainsFunc_api_Interface_api_Interface__model_shareAddress_1 (a0 : List TInterface) (a1c0 : TRouter) : Option Bool :=
  (M.slices_IndexFunc_api_Interface_api_Interface__model_shareAddress_1 a0 a1c0).bind fun r1 => some (decide (r1 ≥ 0))
noncomputable def M.model_shareAddress (a0 : TRouter) (a1 : TRouter) : Option Bool :=
  (M.slices_ContainsFunc_api_Interface_api_Interface__model_shareAddress_1 a1.fInterfaces a0).bind fun r1 => some r1
noncomputable def M.model_Check_l2 (a0 : TNetwork) (p1 : Int) (p4 : Int) : Option (Int ⊕ (Unit ⊕ Int)) :=
  bif decide (p4 < ((p1.toNat - 0 : Nat) : Int)) then (gd [decide (0 ≤ p4), decide (p4 < (((a0.fRouters.drop 0).take (p1.toNat - 0)).length : Int))] ((gc (!(strEq ((((a0.fRouters.drop 0).take (p1.toNat - 0)).getD p4.toNat default).fName) ((a0.fRouters.getD p1.toNat default).fName))) (M.model_shareAddress (((a0.fRouters.drop 0).take (p1.toNat - 0)).getD p4.toNat default) (a0.fRouters.getD p1.toNat default))).bind fun r6 => bif (strEq ((((a0.fRouters.drop 0).take (p1.toNat - 0)).getD p4.toNat default).fName) ((a0.fRouters.getD p1.toNat default).fName)) || r6 then (some (.inr (.inr 4))) else (some (.inl (wr .i64 (p4 + 1)))))) else (some (.inr (.inl ())))
noncomputable def M.model_Check_l1 (a0 : TNetwork) (p1 : Int) : Option (Int ⊕ (Unit ⊕ Int)) :=
  bif decide (p1 < (a0.fRouters.length : Int)) then (gd [decide (0 ≤ p1), decide (p1 < (a0.fRouters.length : Int))] ((M.model_CheckRouter (a0.fRouters.getD p1.toNat default)).bind fun r3 => bif r3 != 0 then (some (.inr (.inr r3))) else (gd [decide (0 ≤ p1), decide (p1 ≤ (a0.fRouters.length : Int))] ((loopM (M.model_Check_l2 a0 p1) 0).bind fun y7 => Sum.elim (fun _ => some (.inl (wr .i64 (p1 + 1)))) (fun y9 => some (.inr (.inr y9))) y7)))) else (some (.inr (.inl ())))
noncomputable def M.model_Check (a0 : TNetwork) : Option Int :=
  bif decide ((a0.fRouters.length : Int) > 8) then (some 7) else ((loopM (M.model_Check_l1 a0) 0).bind fun y10 => Sum.elim (fun _ => some 0) (fun y12 => some y12) y10)
noncomputable def M.topo_collect_k (i : Int) (p : (List TDomain) × (List (TdomainKey × Int)) × Int) (q : (List TDomain) × (List (TdomainKey × Int)) × Int) : Option (((List TDomain) × (List (TdomainKey × Int)) × Int) ⊕ ((List TDomain) × (List (TdomainKey × Int)))) :=
  gd [decide (0 ≤ q.2.2), decide (q.2.2 < (q.1.length : Int)), decide (((q.1.getD (0 + q.2.2.toNat) default).fEnds.length + 1) * 16 ≤ 140737488355328)] (some (.inl (q.1.set (0 + q.2.2.toNat) ⟨(q.1.getD (0 + q.2.2.toNat) default).fPrefix, (q.1.getD (0 + q.2.2.toNat) default).fVLAN, (q.1.getD (0 + q.2.2.toNat) default).fEnds ++ [⟨i, p.2.2⟩]⟩, q.2.1, wr .i64 (p.2.2 + 1))))
noncomputable def M.topo_collect_l2 (a0 : TNetwork) (i : Int) (p : (List TDomain) × (List (TdomainKey × Int)) × Int) : Option (((List TDomain) × (List (TdomainKey × Int)) × Int) ⊕ ((List TDomain) × (List (TdomainKey × Int)))) :=
  bif decide (p.2.2 < (((a0.fRouters.getD i.toNat default).fInterfaces).length : Int)) then (gd [decide (0 ≤ p.2.2), decide (p.2.2 < (((a0.fRouters.getD i.toNat default).fInterfaces).length : Int))] (bif (((a0.fRouters.getD i.toNat default).fInterfaces.getD p.2.2.toNat default).fLen == 0) || ((a0.fRouters.getD i.toNat default).fInterfaces.getD p.2.2.toNat default).fDown then (some (.inl (p.1, p.2.1, wr .i64 (p.2.2 + 1)))) else ((M.addr_Network ((a0.fRouters.getD i.toNat default).fInterfaces.getD p.2.2.toNat default).fAddr ((a0.fRouters.getD i.toNat default).fInterfaces.getD p.2.2.toNat default).fLen).bind fun r => bif !(lkM (topoKeyEq ⟨r, ((a0.fRouters.getD i.toNat default).fInterfaces.getD p.2.2.toNat default).fVLAN⟩) p.2.1).2 then (gd [decide ((p.1.length + 1) * 48 ≤ 140737488355328)] (M.topo_collect_k i p (p.1 ++ [⟨r, ((a0.fRouters.getD i.toNat default).fInterfaces.getD p.2.2.toNat default).fVLAN, []⟩], p.2.1 ++ [(⟨r, ((a0.fRouters.getD i.toNat default).fInterfaces.getD p.2.2.toNat default).fVLAN⟩, (p.1.length : Int))], (p.1.length : Int)))) else (M.topo_collect_k i p (p.1, p.2.1, (lkM (topoKeyEq ⟨r, ((a0.fRouters.getD i.toNat default).fInterfaces.getD p.2.2.toNat default).fVLAN⟩) p.2.1).1))))) else (some (.inr (p.1, p.2.1)))
noncomputable def M.topo_collect_l1 (a0 : TNetwork) (p : (List TDomain) × (List (TdomainKey × Int)) × Int) : Option (((List TDomain) × (List (TdomainKey × Int)) × Int) ⊕ (List TDomain)) :=
  bif decide (p.2.2 < (a0.fRouters.length : Int)) then (gd [decide (0 ≤ p.2.2), decide (p.2.2 < (a0.fRouters.length : Int))] ((loopM (M.topo_collect_l2 a0 p.2.2) (p.1, p.2.1, 0)).bind fun y => some (.inl (y.1, y.2, wr .i64 (p.2.2 + 1))))) else (some (.inr p.1))
noncomputable def M.topo_collect (a0 : TNetwork) : Option (List TDomain) :=
  (loopM (M.topo_collect_l1 a0) ([], [], 0)).bind fun y => some y
noncomputable def M.cmp_isNaN_uint32 (a0 : Int) : Option Bool :=
  some (a0 != a0)
noncomputable def M.cmp_Compare_uint32 (a0 : Int) (a1 : Int) : Option Int :=
  (M.cmp_isNaN_uint32 a0).bind fun r1 => (M.cmp_isNaN_uint32 a1).bind fun r2 => bif r1 then (bif r2 then (some 0) else (some (-1))) else (bif r2 then (some 1) else (bif decide (a0 < a1) then (some (-1)) else (bif decide (a0 > a1) then (some 1) else (some 0))))
noncomputable def M.cmp_isNaN_int (a0 : Int) : Option Bool :=
  some (a0 != a0)
noncomputable def M.cmp_Compare_int (a0 : Int) (a1 : Int) : Option Int :=
  (M.cmp_isNaN_int a0).bind fun r1 => (M.cmp_isNaN_int a1).bind fun r2 => bif r1 then (bif r2 then (some 0) else (some (-1))) else (bif r2 then (some 1) else (bif decide (a0 < a1) then (some (-1)) else (bif decide (a0 > a1) then (some 1) else (some 0))))
noncomputable def M.addr_Compare (a0 : TPrefix) (a1 : TPrefix) : Option Int :=
  (M.cmp_Compare_uint32 a0.fAddr a1.fAddr).bind fun r1 => bif r1 != 0 then (some r1) else ((M.cmp_Compare_int a0.fLen a1.fLen).bind fun r2 => some r2)
noncomputable def M.cmp_Or_int_l1 (a0 : List Int) (p1 : Int) : Option (Int ⊕ (Unit ⊕ Int)) :=
  bif decide (p1 < (a0.length : Int)) then (gd [decide (0 ≤ p1), decide (p1 < (a0.length : Int))] (bif (a0.getD p1.toNat default) != 0 then (some (.inr (.inr (a0.getD p1.toNat default)))) else (some (.inl (wr .i64 (p1 + 1)))))) else (some (.inr (.inl ())))
noncomputable def M.cmp_Or_int (a0 : List Int) : Option Int :=
  (loopM (M.cmp_Or_int_l1 a0) 0).bind fun y3 => Sum.elim (fun _ => some 0) (fun y5 => some y5) y3
noncomputable def M.topo_Build_1 (a0 : TDomain) (a1 : TDomain) : Option Int :=
  (M.addr_Compare a0.fPrefix a1.fPrefix).bind fun r1 => (M.cmp_Compare_int a0.fVLAN a1.fVLAN).bind fun r2 => (M.cmp_Or_int ([r1, r2] : List Int)).bind fun r3 => some r3
noncomputable def M.slices_SortFunc_api_Domain_api_Domain__topo_Build_1 (a0 : List TDomain) : Option (List TDomain) :=
  sortU M.topo_Build_1 a0
noncomputable def M.topo_Build_k1 (p5 : (List Int) × Int) (p7 : (List Int)) : Option (((List Int) × Int) ⊕ (List Int)) :=
  some (.inl (p7, wr .i64 (p5.2 + 1)))
noncomputable def M.topo_Build_l1 (r3 : (List TDomain)) (p5 : (List Int) × Int) : Option (((List Int) × Int) ⊕ (List Int)) :=
  bif decide (p5.2 < (r3.length : Int)) then (gd [decide (0 ≤ p5.2), decide (p5.2 < (r3.length : Int))] (bif decide ((((r3.getD p5.2.toNat default).fEnds).length : Int) ≥ 2) then (gd [decide ((p5.1.length + 1) * 8 ≤ 140737488355328)] (M.topo_Build_k1 p5 (p5.1 ++ [p5.2]))) else (M.topo_Build_k1 p5 p5.1))) else (some (.inr p5.1))
noncomputable def M.topo_Build (a0 : TNetwork) : Option (TTopology × Int) :=
  (M.model_Check a0).bind fun r1 => bif r1 != 0 then (some ((⟨([] : List TDomain), ([] : List Int)⟩ : TTopology), r1)) else ((M.topo_collect a0).bind fun r2 => (M.slices_SortFunc_api_Domain_api_Domain__topo_Build_1 r2).bind fun r3 => gd [decide (r3.length = r2.length)] ((loopM (M.topo_Build_l1 r3) (([] : List Int), 0)).bind fun y8 => bif decide ((y8.length : Int) > 12) then (some ((⟨([] : List TDomain), ([] : List Int)⟩ : TTopology), 7)) else (some ((⟨r3, y8⟩ : TTopology), 0))))
noncomputable def M.law13_pair  : Option TNetwork :=
  some (⟨([(⟨(⟨#[97]⟩ : ByteArray), 0, ([(⟨(⟨#[101, 48]⟩ : ByteArray), 167772161, 24, 0, false, false, 0, 0, false, (⟨#[]⟩ : ByteArray), (⟨#[]⟩ : ByteArray), 0⟩ : TInterface)] : List TInterface), ([] : List TPrefixList), ([] : List TRouteMap), ([] : List TACL), ([] : List TTranslation), ([] : List TStaticRoute), (⟨false, 0, ([] : List TAreaRange), ([] : List TRedist)⟩ : TLinkState), (⟨false, 0, (⟨#[]⟩ : ByteArray), (⟨#[]⟩ : ByteArray), ([] : List TRedist)⟩ : TDistanceVector), (⟨false, 0, 0, ([] : List TNeighbor), ([] : List TPrefix), ([] : List TAggregate), ([] : List TCondition), ([] : List TRedist)⟩ : TPathVector)⟩ : TRouter), (⟨(⟨#[98]⟩ : ByteArray), 0, ([(⟨(⟨#[101, 48]⟩ : ByteArray), 167772162, 24, 0, false, false, 0, 0, false, (⟨#[]⟩ : ByteArray), (⟨#[]⟩ : ByteArray), 0⟩ : TInterface), (⟨(⟨#[101, 49]⟩ : ByteArray), 167772418, 24, 0, false, false, 0, 0, false, (⟨#[]⟩ : ByteArray), (⟨#[]⟩ : ByteArray), 0⟩ : TInterface)] : List TInterface), ([] : List TPrefixList), ([] : List TRouteMap), ([] : List TACL), ([] : List TTranslation), ([] : List TStaticRoute), (⟨false, 0, ([] : List TAreaRange), ([] : List TRedist)⟩ : TLinkState), (⟨false, 0, (⟨#[]⟩ : ByteArray), (⟨#[]⟩ : ByteArray), ([] : List TRedist)⟩ : TDistanceVector), (⟨false, 0, 0, ([] : List TNeighbor), ([] : List TPrefix), ([] : List TAggregate), ([] : List TCondition), ([] : List TRedist)⟩ : TPathVector)⟩ : TRouter)] : List TRouter)⟩ : TNetwork)
noncomputable def M.slices_Clone_api_Router_api_Router (a0 : List TRouter) : Option (List TRouter) :=
  gd [decide (0 = 0) || decide (0 < a0.length), decide ((0 + a0.length) * 448 ≤ 140737488355328)] (some a0)
noncomputable def M.slices_Clone_api_Interface_api_Interface (a0 : List TInterface) : Option (List TInterface) :=
  gd [decide (0 = 0) || decide (0 < a0.length), decide ((0 + a0.length) * 112 ≤ 140737488355328)] (some a0)
noncomputable def M.slices_Clone_api_PrefixList_api_PrefixList (a0 : List TPrefixList) : Option (List TPrefixList) :=
  gd [decide (0 = 0) || decide (0 < a0.length), decide ((0 + a0.length) * 40 ≤ 140737488355328)] (some a0)
noncomputable def M.slices_Clone_api_RouteMap_api_RouteMap (a0 : List TRouteMap) : Option (List TRouteMap) :=
  gd [decide (0 = 0) || decide (0 < a0.length), decide ((0 + a0.length) * 40 ≤ 140737488355328)] (some a0)
noncomputable def M.slices_Clone_api_ACL_api_ACL (a0 : List TACL) : Option (List TACL) :=
  gd [decide (0 = 0) || decide (0 < a0.length), decide ((0 + a0.length) * 40 ≤ 140737488355328)] (some a0)
noncomputable def M.slices_Clone_api_Translation_api_Translation (a0 : List TTranslation) : Option (List TTranslation) :=
  gd [decide (0 = 0) || decide (0 < a0.length), decide ((0 + a0.length) * 64 ≤ 140737488355328)] (some a0)
noncomputable def M.slices_Clone_api_StaticRoute_api_StaticRoute (a0 : List TStaticRoute) : Option (List TStaticRoute) :=
  gd [decide (0 = 0) || decide (0 < a0.length), decide ((0 + a0.length) * 64 ≤ 140737488355328)] (some a0)
noncomputable def M.slices_Clone_api_AreaRange_api_AreaRange (a0 : List TAreaRange) : Option (List TAreaRange) :=
  gd [decide (0 = 0) || decide (0 < a0.length), decide ((0 + a0.length) * 24 ≤ 140737488355328)] (some a0)
noncomputable def M.slices_Clone_api_Redist_api_Redist (a0 : List TRedist) : Option (List TRedist) :=
  gd [decide (0 = 0) || decide (0 < a0.length), decide ((0 + a0.length) * 48 ≤ 140737488355328)] (some a0)
noncomputable def M.slices_Clone_api_Neighbor_api_Neighbor (a0 : List TNeighbor) : Option (List TNeighbor) :=
  gd [decide (0 = 0) || decide (0 < a0.length), decide ((0 + a0.length) * 48 ≤ 140737488355328)] (some a0)
noncomputable def M.slices_Clone_api_Prefix_api_Prefix (a0 : List TPrefix) : Option (List TPrefix) :=
  gd [decide (0 = 0) || decide (0 < a0.length), decide ((0 + a0.length) * 16 ≤ 140737488355328)] (some a0)
noncomputable def M.slices_Clone_api_Aggregate_api_Aggregate (a0 : List TAggregate) : Option (List TAggregate) :=
  gd [decide (0 = 0) || decide (0 < a0.length), decide ((0 + a0.length) * 24 ≤ 140737488355328)] (some a0)
noncomputable def M.slices_Clone_api_Condition_api_Condition (a0 : List TCondition) : Option (List TCondition) :=
  gd [decide (0 = 0) || decide (0 < a0.length), decide ((0 + a0.length) * 40 ≤ 140737488355328)] (some a0)
noncomputable def M.topo_copyRouter_l1 (r2 : (List TPrefixList)) (p3 : Int) : Option (Int ⊕ Unit) :=
  bif decide (p3 < (r2.length : Int)) then none else (some (.inr ()))
noncomputable def M.topo_copyRouter_l2 (r6 : (List TRouteMap)) (p7 : Int) : Option (Int ⊕ Unit) :=
  bif decide (p7 < (r6.length : Int)) then none else (some (.inr ()))
noncomputable def M.topo_copyRouter_l3 (r10 : (List TACL)) (p11 : Int) : Option (Int ⊕ Unit) :=
  bif decide (p11 < (r10.length : Int)) then none else (some (.inr ()))
noncomputable def M.topo_copyRouter (a0 : TRouter) : Option TRouter :=
  (M.slices_Clone_api_Interface_api_Interface a0.fInterfaces).bind fun r1 => (M.slices_Clone_api_PrefixList_api_PrefixList a0.fLists).bind fun r2 => (loopM (M.topo_copyRouter_l1 r2) 0).bind fun y5 => (M.slices_Clone_api_RouteMap_api_RouteMap a0.fMaps).bind fun r6 => (loopM (M.topo_copyRouter_l2 r6) 0).bind fun y9 => (M.slices_Clone_api_ACL_api_ACL a0.fACLs).bind fun r10 => (loopM (M.topo_copyRouter_l3 r10) 0).bind fun y13 => (M.slices_Clone_api_Translation_api_Translation a0.fNAT).bind fun r14 => (M.slices_Clone_api_StaticRoute_api_StaticRoute a0.fStatics).bind fun r15 => (M.slices_Clone_api_AreaRange_api_AreaRange a0.fLS.fRanges).bind fun r16 => (M.slices_Clone_api_Redist_api_Redist a0.fLS.fRedist).bind fun r17 => (M.slices_Clone_api_Redist_api_Redist a0.fDV.fRedist).bind fun r18 => (M.slices_Clone_api_Neighbor_api_Neighbor a0.fPV.fNeighbors).bind fun r19 => (M.slices_Clone_api_Prefix_api_Prefix a0.fPV.fNetworks).bind fun r20 => (M.slices_Clone_api_Aggregate_api_Aggregate a0.fPV.fAggregates).bind fun r21 => (M.slices_Clone_api_Condition_api_Condition a0.fPV.fConditions).bind fun r22 => (M.slices_Clone_api_Redist_api_Redist a0.fPV.fRedist).bind fun r23 => some (⟨a0.fName, a0.fAS, r1, r2, r6, r10, r14, r15, (⟨a0.fLS.fOn, a0.fLS.fAdmin, r16, r17⟩ : TLinkState), (⟨a0.fDV.fOn, a0.fDV.fAdmin, a0.fDV.fIn, a0.fDV.fOut, r18⟩ : TDistanceVector), (⟨a0.fPV.fOn, a0.fPV.fExternal, a0.fPV.fInternal, r19, r20, r21, r22, r23⟩ : TPathVector)⟩ : TRouter)
noncomputable def M.topo_copyNetwork_l1 (r1 : (List TRouter)) (p2 : (List TRouter) × Int) : Option (((List TRouter) × Int) ⊕ (List TRouter)) :=
  bif decide (p2.2 < (r1.length : Int)) then ((M.topo_copyRouter (p2.1.getD (0 + p2.2.toNat) default)).bind fun r4 => gd [decide (0 ≤ p2.2), decide (p2.2 < (p2.1.length : Int)), decide (0 ≤ p2.2), decide (p2.2 < (p2.1.length : Int))] (some (.inl (p2.1.set (0 + p2.2.toNat) r4, wr .i64 (p2.2 + 1))))) else (some (.inr p2.1))
noncomputable def M.topo_copyNetwork (a0 : TNetwork) : Option TNetwork :=
  (M.slices_Clone_api_Router_api_Router a0.fRouters).bind fun r1 => (loopM (M.topo_copyNetwork_l1 r1) (r1, 0)).bind fun y5 => some (⟨y5⟩ : TNetwork)
noncomputable def M.slices_Clone_int_int (a0 : List Int) : Option (List Int) :=
  gd [decide (0 = 0) || decide (0 < a0.length), decide ((0 + a0.length) * 8 ≤ 140737488355328)] (some a0)
noncomputable def M.topo_Make_l1 (a1 : List Int) (r1 : TTopology × Int) (p2 : Int) : Option (Int ⊕ Unit) :=
  bif decide (p2 < (a1.length : Int)) then (gd [decide (0 ≤ p2), decide (p2 < (a1.length : Int))] (gd [guardB ((!((decide ((a1.getD p2.toNat default) < 0)) || (decide ((a1.getD p2.toNat default) ≥ (r1.1.fLinks.length : Int))))) && (decide (p2 > 0))) (decide (0 ≤ (wr .i64 (p2 - 1)))), guardB ((!((decide ((a1.getD p2.toNat default) < 0)) || (decide ((a1.getD p2.toNat default) ≥ (r1.1.fLinks.length : Int))))) && (decide (p2 > 0))) (decide ((wr .i64 (p2 - 1)) < (a1.length : Int)))] (bif ((decide ((a1.getD p2.toNat default) < 0)) || (decide ((a1.getD p2.toNat default) ≥ (r1.1.fLinks.length : Int)))) || ((decide (p2 > 0)) && (decide ((a1.getD p2.toNat default) ≤ (a1.getD (wr .i64 (p2 - 1)).toNat default)))) then none else (some (.inl (wr .i64 (p2 + 1))))))) else (some (.inr ()))
noncomputable def M.topo_Make (a0 : TNetwork) (a1 : List Int) : Option (TView × Int) :=
  (M.topo_Build a0).bind fun r1 => bif r1.2 != 0 then none else (bif decide ((a1.length : Int) > 2) then none else ((loopM (M.topo_Make_l1 a1 r1) 0).bind fun y4 => (M.topo_copyNetwork a0).bind fun r5 => (M.slices_Clone_int_int a1).bind fun r6 => some ((⟨r5, r1.1, r6⟩ : TView), 0)))
noncomputable def M.slices_Index_api_End_api_End_l1 (a0 : List TEnd) (a1 : TEnd) (p1 : Int) : Option (Int ⊕ (Unit ⊕ Int)) :=
  bif decide (p1 < (a0.length : Int)) then (gd [decide (0 ≤ p1), decide (p1 < (a0.length : Int))] (bif ((a1.fRouter == ((a0.getD p1.toNat default).fRouter)) && ((a1.fIface == ((a0.getD p1.toNat default).fIface)) && true)) then (some (.inr (.inr p1))) else (some (.inl (wr .i64 (p1 + 1)))))) else (some (.inr (.inl ())))
noncomputable def M.slices_Index_api_End_api_End (a0 : List TEnd) (a1 : TEnd) : Option Int :=
  (loopM (M.slices_Index_api_End_api_End_l1 a0 a1) 0).bind fun y3 => Sum.elim (fun _ => some (-1)) (fun y5 => some y5) y3
noncomputable def M.slices_Contains_api_End_api_End (a0 : List TEnd) (a1 : TEnd) : Option Bool :=
  (M.slices_Index_api_End_api_End a0 a1).bind fun r1 => some (decide (r1 ≥ 0))
noncomputable def M.topo_Domain_l1 (a0 : TView) (a1 : Int) (a2 : Int) (p1 : Int) : Option (Int ⊕ (Unit ⊕ Int)) :=
  bif decide (p1 < (a0.fTopo.fDomains.length : Int)) then (gd [decide (0 ≤ p1), decide (p1 < (a0.fTopo.fDomains.length : Int))] ((M.slices_Contains_api_End_api_End ((a0.fTopo.fDomains.getD p1.toNat default).fEnds) (⟨a1, a2⟩ : TEnd)).bind fun r3 => bif r3 then (some (.inr (.inr p1))) else (some (.inl (wr .i64 (p1 + 1)))))) else (some (.inr (.inl ())))
noncomputable def M.topo_Domain (a0 : TView) (a1 : Int) (a2 : Int) : Option Int :=
  (loopM (M.topo_Domain_l1 a0 a1 a2) 0).bind fun y4 => Sum.elim (fun _ => none) (fun y6 => some y6) y4
noncomputable def M.slices_Index_int_int_l1 (a0 : List Int) (a1 : Int) (p1 : Int) : Option (Int ⊕ (Unit ⊕ Int)) :=
  bif decide (p1 < (a0.length : Int)) then (gd [decide (0 ≤ p1), decide (p1 < (a0.length : Int))] (bif a1 == (a0.getD p1.toNat default) then (some (.inr (.inr p1))) else (some (.inl (wr .i64 (p1 + 1)))))) else (some (.inr (.inl ())))
noncomputable def M.slices_Index_int_int (a0 : List Int) (a1 : Int) : Option Int :=
  (loopM (M.slices_Index_int_int_l1 a0 a1) 0).bind fun y3 => Sum.elim (fun _ => some (-1)) (fun y5 => some y5) y3
noncomputable def M.topo_Link (a0 : TView) (a1 : Int) (a2 : Int) : Option Int :=
  (M.topo_Domain a0 a1 a2).bind fun r1 => bif decide (r1 < 0) then none else ((M.slices_Index_int_int a0.fTopo.fLinks r1).bind fun r2 => some r2)
noncomputable def M.slices_Contains_int_int (a0 : List Int) (a1 : Int) : Option Bool :=
  (M.slices_Index_int_int a0 a1).bind fun r1 => some (decide (r1 ≥ 0))
noncomputable def M.topo_Up (a0 : TView) (a1 : Int) (a2 : Int) : Option Bool :=
  (M.topo_Domain a0 a1 a2).bind fun r1 => bif decide (r1 < 0) then none else ((M.topo_Link a0 a1 a2).bind fun r2 => (gc (!(decide (r2 < 0))) (M.slices_Contains_int_int a0.fDown r2)).bind fun r3 => some ((decide (r2 < 0)) || (!r3)))
noncomputable def M.law13_sane  : Option Bool :=
  (M.law13_pair).bind fun r1 => (M.topo_Make r1 ([] : List Int)).bind fun r2 => (M.law13_pair).bind fun r3 => (M.topo_Make r3 ([0] : List Int)).bind fun r4 => (gc ((((r2.2 == 0) && (r4.2 == 0)) && ((r2.1.fTopo.fDomains.length : Int) == 2)) && ((r2.1.fTopo.fLinks.length : Int) == 1)) (M.topo_Up r2.1 0 0)).bind fun r5 => (gc (((((r2.2 == 0) && (r4.2 == 0)) && ((r2.1.fTopo.fDomains.length : Int) == 2)) && ((r2.1.fTopo.fLinks.length : Int) == 1)) && r5) (M.topo_Up r4.1 0 0)).bind fun r6 => (gc ((((((r2.2 == 0) && (r4.2 == 0)) && ((r2.1.fTopo.fDomains.length : Int) == 2)) && ((r2.1.fTopo.fLinks.length : Int) == 1)) && r5) && (!r6)) (M.topo_Up r4.1 1 1)).bind fun r7 => some (((((((r2.2 == 0) && (r4.2 == 0)) && ((r2.1.fTopo.fDomains.length : Int) == 2)) && ((r2.1.fTopo.fLinks.length : Int) == 1)) && r5) && (!r6)) && r7)
noncomputable def M.law13_TopoDomains_k1 (p10 : Int × Int) (p12 : Int) : Option ((Int × Int) ⊕ Int) :=
  some (.inl (p12, wr .i64 (p10.2 + 1)))
noncomputable def M.law13_TopoDomains_l4 (r2 : TTopology × Int) (p4 : Int) (p6 : Int) (p8 : Int × Int) (p10 : Int × Int) : Option ((Int × Int) ⊕ Int) :=
  gd [decide (0 ≤ p8.2), decide (p8.2 < (r2.1.fDomains.length : Int))] (bif decide (p10.2 < (((r2.1.fDomains.getD p8.2.toNat default).fEnds).length : Int)) then (gd [decide (0 ≤ p8.2), decide (p8.2 < (r2.1.fDomains.length : Int)), decide (0 ≤ p10.2), decide (p10.2 < (((r2.1.fDomains.getD p8.2.toNat default).fEnds).length : Int))] (bif ((((((r2.1.fDomains.getD p8.2.toNat default).fEnds).getD p10.2.toNat default).fRouter) == p4) && ((((((r2.1.fDomains.getD p8.2.toNat default).fEnds).getD p10.2.toNat default).fIface) == p6) && true)) then (M.law13_TopoDomains_k1 p10 (wr .i64 (p10.1 + 1))) else (M.law13_TopoDomains_k1 p10 p10.1))) else (some (.inr p10.1)))
noncomputable def M.law13_TopoDomains_l3 (r2 : TTopology × Int) (p4 : Int) (p6 : Int) (p8 : Int × Int) : Option ((Int × Int) ⊕ Int) :=
  bif decide (p8.2 < (r2.1.fDomains.length : Int)) then ((loopM (M.law13_TopoDomains_l4 r2 p4 p6 p8) (p8.1, 0)).bind fun y13 => some (.inl (y13, wr .i64 (p8.2 + 1)))) else (some (.inr p8.1))
noncomputable def M.law13_TopoDomains_l2 (a0 : TNetwork) (r2 : TTopology × Int) (p4 : Int) (p6 : Int) : Option (Int ⊕ (Unit ⊕ Bool)) :=
  gd [decide (0 ≤ p4), decide (p4 < (a0.fRouters.length : Int))] (bif decide (p6 < (((a0.fRouters.getD p4.toNat default).fInterfaces).length : Int)) then (gd [decide (0 ≤ p4), decide (p4 < (a0.fRouters.length : Int)), decide (0 ≤ p6), decide (p6 < (((a0.fRouters.getD p4.toNat default).fInterfaces).length : Int))] ((loopM (M.law13_TopoDomains_l3 r2 p4 p6) (0, 0)).bind fun y14 => bif (!(((((((a0.fRouters.getD p4.toNat default).fInterfaces).getD p6.toNat default).fLen) != 0) && (!((((a0.fRouters.getD p4.toNat default).fInterfaces).getD p6.toNat default).fDown))) == (y14 == 1))) || (decide (y14 > 1)) then (some (.inr (.inr false))) else (some (.inl (wr .i64 (p6 + 1)))))) else (some (.inr (.inl ()))))
noncomputable def M.law13_TopoDomains_l1 (a0 : TNetwork) (r2 : TTopology × Int) (p4 : Int) : Option (Int ⊕ (Unit ⊕ Bool)) :=
  bif decide (p4 < (a0.fRouters.length : Int)) then ((loopM (M.law13_TopoDomains_l2 a0 r2 p4) 0).bind fun y15 => Sum.elim (fun _ => some (.inl (wr .i64 (p4 + 1)))) (fun y17 => some (.inr (.inr y17))) y15) else (some (.inr (.inl ())))
noncomputable def M.law13_TopoDomains_k2 (p21 : Int × Int) (p23 : Int) : Option ((Int × Int) ⊕ (Int ⊕ Bool)) :=
  some (.inl (p23, wr .i64 (p21.2 + 1)))
noncomputable def M.law13_TopoDomains_l6 (r2 : TTopology × Int) (p21 : Int × Int) (p24 : Int) : Option (Int ⊕ (Unit ⊕ Bool)) :=
  bif decide (p24 < (((r2.1.fDomains.getD p21.2.toNat default).fEnds).length : Int)) then (gd [decide (0 ≤ p24), decide (p24 < (((r2.1.fDomains.getD p21.2.toNat default).fEnds).length : Int)), decide (0 ≤ (wr .i64 (p24 - 1))), decide ((wr .i64 (p24 - 1)) < (((r2.1.fDomains.getD p21.2.toNat default).fEnds).length : Int))] (bif decide (((((r2.1.fDomains.getD p21.2.toNat default).fEnds).getD p24.toNat default).fRouter) ≤ ((((r2.1.fDomains.getD p21.2.toNat default).fEnds).getD (wr .i64 (p24 - 1)).toNat default).fRouter)) then (some (.inr (.inr false))) else (some (.inl (wr .i64 (p24 + 1)))))) else (some (.inr (.inl ())))
noncomputable def M.law13_TopoDomains_l5 (r2 : TTopology × Int) (p21 : Int × Int) : Option ((Int × Int) ⊕ (Int ⊕ Bool)) :=
  bif decide (p21.2 < (r2.1.fDomains.length : Int)) then (gd [decide (0 ≤ p21.2), decide (p21.2 < (r2.1.fDomains.length : Int))] ((loopM (M.law13_TopoDomains_l6 r2 p21) 1).bind fun y26 => Sum.elim (fun _ => bif decide ((((r2.1.fDomains.getD p21.2.toNat default).fEnds).length : Int) > 1) then (gd [guardB (!(decide (p21.1 ≥ (r2.1.fLinks.length : Int)))) (decide (0 ≤ p21.1)), guardB (!(decide (p21.1 ≥ (r2.1.fLinks.length : Int)))) (decide (p21.1 < (r2.1.fLinks.length : Int)))] (bif (decide (p21.1 ≥ (r2.1.fLinks.length : Int))) || ((r2.1.fLinks.getD p21.1.toNat default) != p21.2) then (some (.inr (.inr false))) else (M.law13_TopoDomains_k2 p21 (wr .i64 (p21.1 + 1))))) else (M.law13_TopoDomains_k2 p21 p21.1)) (fun y28 => some (.inr (.inr y28))) y26)) else (some (.inr (.inl p21.1)))
noncomputable def M.law13_TopoDomains (a0 : TNetwork) : Option Bool :=
  (M.law13_Small a0).bind fun r1 => bif !r1 then (some true) else ((M.topo_Build a0).bind fun r2 => bif r2.2 != 0 then ((gc (((r2.1.fDomains.length : Int) == 0) && ((r2.1.fLinks.length : Int) == 0)) M.law13_sane).bind fun r3 => some ((((r2.1.fDomains.length : Int) == 0) && ((r2.1.fLinks.length : Int) == 0)) && r3)) else ((loopM (M.law13_TopoDomains_l1 a0 r2) 0).bind fun y18 => Sum.elim (fun _ => (loopM (M.law13_TopoDomains_l5 r2) (0, 0)).bind fun y29 => Sum.elim (fun g30 => (gc (g30 == (r2.1.fLinks.length : Int)) M.law13_sane).bind fun r32 => some ((g30 == (r2.1.fLinks.length : Int)) && r32)) (fun y31 => some y31) y29) (fun y20 => some y20) y18))
end Nv
