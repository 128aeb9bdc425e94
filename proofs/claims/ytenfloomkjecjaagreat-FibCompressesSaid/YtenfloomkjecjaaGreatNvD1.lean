/- The mirrors: what each function of the given program computes, in plain terms. -/
import Derived.Test.YtenfloomkjecjaaGreatNvLibB
import Derived.Test.YtenfloomkjecjaaGreatNvLibD
import Derived.Test.YtenfloomkjecjaaGreatNvLibC
set_option maxRecDepth 100000
namespace Nv
open Go
structure TPrefix where
  fAddr : Int
  fLen : Int
  deriving Inhabited
def c_TPrefix (x : TPrefix) : List D := [.int .u32 x.fAddr, .int .i64 x.fLen]
structure THop where
  fIface : Int
  fAddr : Int
  deriving Inhabited
def c_THop (x : THop) : List D := [.int .i64 x.fIface, .int .u32 x.fAddr]
structure TForward where
  fPrefix : TPrefix
  fHops : List THop
  fDiscard : Bool
  deriving Inhabited
def c_TForward (x : TForward) : List D := [.int .u32 x.fPrefix.fAddr, .int .i64 x.fPrefix.fLen, sL 2 c_THop x.fHops, .bool x.fDiscard]
structure TInterface where
  fName : ByteArray
  fAddr : Int
  fLen : Int
  fVLAN : Int
  fDown : Bool
  fLS : Bool
  fArea : Int
  fCost : Int
  fDV : Bool
  fIn : ByteArray
  fOut : ByteArray
  fSide : Int
  deriving Inhabited
def c_TInterface (x : TInterface) : List D := [.str x.fName, .int .u32 x.fAddr, .int .i64 x.fLen, .int .i64 x.fVLAN, .bool x.fDown, .bool x.fLS, .int .i64 x.fArea, .int .i64 x.fCost, .bool x.fDV, .str x.fIn, .str x.fOut, .int .i64 x.fSide]
structure TStaticRoute where
  fPrefix : TPrefix
  fNext : Int
  fIface : ByteArray
  fDiscard : Bool
  fAdmin : Int
  fTag : Int
  deriving Inhabited
def c_TStaticRoute (x : TStaticRoute) : List D := [.int .u32 x.fPrefix.fAddr, .int .i64 x.fPrefix.fLen, .int .u32 x.fNext, .str x.fIface, .bool x.fDiscard, .int .i64 x.fAdmin, .int .i64 x.fTag]
structure TPrefixRule where
  fPermit : Bool
  fPrefix : TPrefix
  fMin : Int
  fMax : Int
  deriving Inhabited
def c_TPrefixRule (x : TPrefixRule) : List D := [.bool x.fPermit, .int .u32 x.fPrefix.fAddr, .int .i64 x.fPrefix.fLen, .int .i64 x.fMin, .int .i64 x.fMax]
structure TPrefixList where
  fName : ByteArray
  fRules : List TPrefixRule
  deriving Inhabited
def c_TPrefixList (x : TPrefixList) : List D := [.str x.fName, sL 5 c_TPrefixRule x.fRules]
structure TClause where
  fPermit : Bool
  fList : ByteArray
  fTag : Int
  fSetMetric : Int
  fSetTag : Int
  fSetPref : Int
  fPrepend : Int
  deriving Inhabited
def c_TClause (x : TClause) : List D := [.bool x.fPermit, .str x.fList, .int .i64 x.fTag, .int .i64 x.fSetMetric, .int .i64 x.fSetTag, .int .i64 x.fSetPref, .int .i64 x.fPrepend]
structure TRouteMap where
  fName : ByteArray
  fClauses : List TClause
  deriving Inhabited
def c_TRouteMap (x : TRouteMap) : List D := [.str x.fName, sL 7 c_TClause x.fClauses]
structure TWildcard where
  fAddr : Int
  fMask : Int
  deriving Inhabited
structure TPortRange where
  fLo : Int
  fHi : Int
  deriving Inhabited
structure TRule where
  fPermit : Bool
  fProto : Int
  fSrc : TWildcard
  fDst : TWildcard
  fSrcPorts : TPortRange
  fDstPorts : TPortRange
  deriving Inhabited
def c_TRule (x : TRule) : List D := [.bool x.fPermit, .int .i64 x.fProto, .int .u32 x.fSrc.fAddr, .int .u32 x.fSrc.fMask, .int .u32 x.fDst.fAddr, .int .u32 x.fDst.fMask, .int .i64 x.fSrcPorts.fLo, .int .i64 x.fSrcPorts.fHi, .int .i64 x.fDstPorts.fLo, .int .i64 x.fDstPorts.fHi]
structure TACL where
  fName : ByteArray
  fRules : List TRule
  deriving Inhabited
def c_TACL (x : TACL) : List D := [.str x.fName, sL 10 c_TRule x.fRules]
structure TTranslation where
  fKind : Int
  fInside : Int
  fOutside : Int
  fProto : Int
  fInsidePort : Int
  fOutsidePort : Int
  fList : ByteArray
  fLo : Int
  fHi : Int
  deriving Inhabited
def c_TTranslation (x : TTranslation) : List D := [.int .i64 x.fKind, .int .u32 x.fInside, .int .u32 x.fOutside, .int .i64 x.fProto, .int .i64 x.fInsidePort, .int .i64 x.fOutsidePort, .str x.fList, .int .u32 x.fLo, .int .u32 x.fHi]
structure TAreaRange where
  fArea : Int
  fPrefix : TPrefix
  deriving Inhabited
def c_TAreaRange (x : TAreaRange) : List D := [.int .i64 x.fArea, .int .u32 x.fPrefix.fAddr, .int .i64 x.fPrefix.fLen]
structure TRedist where
  fFrom : Int
  fMetric : Int
  fTag : Int
  fMap : ByteArray
  fType : Int
  deriving Inhabited
def c_TRedist (x : TRedist) : List D := [.int .i64 x.fFrom, .int .i64 x.fMetric, .int .i64 x.fTag, .str x.fMap, .int .i64 x.fType]
structure TNeighbor where
  fAddr : Int
  fAS : Int
  fIn : ByteArray
  fOut : ByteArray
  deriving Inhabited
def c_TNeighbor (x : TNeighbor) : List D := [.int .u32 x.fAddr, .int .i64 x.fAS, .str x.fIn, .str x.fOut]
structure TAggregate where
  fPrefix : TPrefix
  fOnly : Bool
  deriving Inhabited
def c_TAggregate (x : TAggregate) : List D := [.int .u32 x.fPrefix.fAddr, .int .i64 x.fPrefix.fLen, .bool x.fOnly]
structure TCondition where
  fPrefix : TPrefix
  fIf : TPrefix
  fAbsent : Bool
  deriving Inhabited
def c_TCondition (x : TCondition) : List D := [.int .u32 x.fPrefix.fAddr, .int .i64 x.fPrefix.fLen, .int .u32 x.fIf.fAddr, .int .i64 x.fIf.fLen, .bool x.fAbsent]
structure TLinkState where
  fOn : Bool
  fAdmin : Int
  fRanges : List TAreaRange
  fRedist : List TRedist
  deriving Inhabited
def c_TLinkState (x : TLinkState) : List D := [.bool x.fOn, .int .i64 x.fAdmin, sL 3 c_TAreaRange x.fRanges, sL 5 c_TRedist x.fRedist]
structure TDistanceVector where
  fOn : Bool
  fAdmin : Int
  fIn : ByteArray
  fOut : ByteArray
  fRedist : List TRedist
  deriving Inhabited
def c_TDistanceVector (x : TDistanceVector) : List D := [.bool x.fOn, .int .i64 x.fAdmin, .str x.fIn, .str x.fOut, sL 5 c_TRedist x.fRedist]
structure TPathVector where
  fOn : Bool
  fExternal : Int
  fInternal : Int
  fNeighbors : List TNeighbor
  fNetworks : List TPrefix
  fAggregates : List TAggregate
  fConditions : List TCondition
  fRedist : List TRedist
  deriving Inhabited
def c_TPathVector (x : TPathVector) : List D := [.bool x.fOn, .int .i64 x.fExternal, .int .i64 x.fInternal, sL 4 c_TNeighbor x.fNeighbors, sL 2 c_TPrefix x.fNetworks, sL 3 c_TAggregate x.fAggregates, sL 5 c_TCondition x.fConditions, sL 5 c_TRedist x.fRedist]
structure TRouter where
  fName : ByteArray
  fAS : Int
  fInterfaces : List TInterface
  fLists : List TPrefixList
  fMaps : List TRouteMap
  fACLs : List TACL
  fNAT : List TTranslation
  fStatics : List TStaticRoute
  fLS : TLinkState
  fDV : TDistanceVector
  fPV : TPathVector
  deriving Inhabited
def c_TRouter (x : TRouter) : List D := [.str x.fName, .int .i64 x.fAS, sL 12 c_TInterface x.fInterfaces, sL 2 c_TPrefixList x.fLists, sL 2 c_TRouteMap x.fMaps, sL 2 c_TACL x.fACLs, sL 9 c_TTranslation x.fNAT, sL 7 c_TStaticRoute x.fStatics, .bool x.fLS.fOn, .int .i64 x.fLS.fAdmin, sL 3 c_TAreaRange x.fLS.fRanges, sL 5 c_TRedist x.fLS.fRedist, .bool x.fDV.fOn, .int .i64 x.fDV.fAdmin, .str x.fDV.fIn, .str x.fDV.fOut, sL 5 c_TRedist x.fDV.fRedist, .bool x.fPV.fOn, .int .i64 x.fPV.fExternal, .int .i64 x.fPV.fInternal, sL 4 c_TNeighbor x.fPV.fNeighbors, sL 2 c_TPrefix x.fPV.fNetworks, sL 3 c_TAggregate x.fPV.fAggregates, sL 5 c_TCondition x.fPV.fConditions, sL 5 c_TRedist x.fPV.fRedist]
structure TNetwork where
  fRouters : List TRouter
  deriving Inhabited
def c_TNetwork (x : TNetwork) : List D := [sL 25 c_TRouter x.fRouters]
structure TEnd where
  fRouter : Int
  fIface : Int
  deriving Inhabited
def c_TEnd (x : TEnd) : List D := [.int .i64 x.fRouter, .int .i64 x.fIface]
structure TDomain where
  fPrefix : TPrefix
  fVLAN : Int
  fEnds : List TEnd
  deriving Inhabited
def c_TDomain (x : TDomain) : List D := [.int .u32 x.fPrefix.fAddr, .int .i64 x.fPrefix.fLen, .int .i64 x.fVLAN, sL 2 c_TEnd x.fEnds]
structure TTopology where
  fDomains : List TDomain
  fLinks : List Int
  deriving Inhabited
def c_TTopology (x : TTopology) : List D := [sL 4 c_TDomain x.fDomains, sL 1 (ci .i64) x.fLinks]
structure TView where
  fNet : TNetwork
  fTopo : TTopology
  fDown : List Int
  deriving Inhabited
def c_TView (x : TView) : List D := [sL 25 c_TRouter x.fNet.fRouters, sL 4 c_TDomain x.fTopo.fDomains, sL 1 (ci .i64) x.fTopo.fLinks, sL 1 (ci .i64) x.fDown]
structure TdomainKey where
  fprefix : TPrefix
  fvlan : Int
  deriving Inhabited
def c_TdomainKey (x : TdomainKey) : List D := [.int .u32 x.fprefix.fAddr, .int .i64 x.fprefix.fLen, .int .i64 x.fvlan]
structure TRoute where
  fPrefix : TPrefix
  fProto : Int
  fClass : Int
  fAdmin : Int
  fMetric : Int
  fInner : Int
  fTag : Int
  fPref : Int
  fPath : List Int
  fFrom : Int
  fNext : Int
  fHops : List THop
  fDiscard : Bool
  deriving Inhabited
def c_TRoute (x : TRoute) : List D := [.int .u32 x.fPrefix.fAddr, .int .i64 x.fPrefix.fLen, .int .i64 x.fProto, .int .i64 x.fClass, .int .i64 x.fAdmin, .int .i64 x.fMetric, .int .i64 x.fInner, .int .i64 x.fTag, .int .i64 x.fPref, sL 1 (ci .i64) x.fPath, .int .u32 x.fFrom, .int .u32 x.fNext, sL 2 c_THop x.fHops, .bool x.fDiscard]
def topoKeyEq (a b : TdomainKey) : Bool := (((a.fprefix.fAddr == b.fprefix.fAddr) && ((a.fprefix.fLen == b.fprefix.fLen) && true)) && ((a.fvlan == b.fvlan) && true))
def hdDom (x : TDomain) : List D := [.int .u32 x.fPrefix.fAddr, .int .i64 x.fPrefix.fLen, .int .i64 x.fVLAN]
noncomputable def M.ref4_Mask_k1 (p1 : Int × Int) (p3 : Int) : Option ((Int × Int) ⊕ Int) :=
  some (.inl (p3, wr .i64 (p1.2 + 1)))
noncomputable def M.ref4_Mask_l1 (a0 : Int) (p1 : Int × Int) : Option ((Int × Int) ⊕ Int) :=
  bif decide (p1.2 < 32) then (bif decide (p1.2 < a0) then (gd [decide (0 ≤ (wr .u64 (wr .i64 (31 - p1.2))))] (M.ref4_Mask_k1 p1 (bitD .or .u32 p1.1 (wr .u32 (1 * 2 ^ min (wr .u64 (wr .i64 (31 - p1.2))).toNat 32))))) else (M.ref4_Mask_k1 p1 p1.1)) else (some (.inr p1.1))
noncomputable def M.ref4_Mask (a0 : Int) : Option Int :=
  (loopM (M.ref4_Mask_l1 a0) (0, 0)).bind fun y4 => some y4
noncomputable def M.ref4_Valid (a0 : TPrefix) : Option Bool :=
  (gc ((decide (a0.fLen ≥ 0)) && (decide (a0.fLen ≤ 32))) (M.ref4_Mask a0.fLen)).bind fun r1 => some (((decide (a0.fLen ≥ 0)) && (decide (a0.fLen ≤ 32))) && ((bitD .andNot .u32 a0.fAddr r1) == 0))
noncomputable def M.ref4_Compare (a0 : TPrefix) (a1 : TPrefix) : Option Int :=
  bif (decide (a0.fAddr < a1.fAddr)) || ((a0.fAddr == a1.fAddr) && (decide (a0.fLen < a1.fLen))) then (some (-1)) else (bif ((a0.fAddr == a1.fAddr) && ((a0.fLen == a1.fLen) && true)) then (some 0) else (some 1))
noncomputable def M.law24_right_l1 (a0 : List TForward) (p1 : Int) : Option (Int ⊕ (Unit ⊕ Bool)) :=
  bif decide (p1 < (a0.length : Int)) then ((M.ref4_Valid ((a0.getD p1.toNat default).fPrefix)).bind fun r3 => (gc ((!((!r3) || (decide ((((a0.getD p1.toNat default).fHops).length : Int) > 10)))) && (decide (p1 > 0))) (M.ref4_Compare ((a0.getD (wr .i64 (p1 - 1)).toNat default).fPrefix) ((a0.getD p1.toNat default).fPrefix))).bind fun r4 => gd [decide (0 ≤ p1), decide (p1 < (a0.length : Int)), guardB (!(!r3)) (decide (0 ≤ p1)), guardB (!(!r3)) (decide (p1 < (a0.length : Int))), guardB ((!((!r3) || (decide ((((a0.getD p1.toNat default).fHops).length : Int) > 10)))) && (decide (p1 > 0))) (decide (0 ≤ (wr .i64 (p1 - 1)))), guardB ((!((!r3) || (decide ((((a0.getD p1.toNat default).fHops).length : Int) > 10)))) && (decide (p1 > 0))) (decide ((wr .i64 (p1 - 1)) < (a0.length : Int))), guardB ((!((!r3) || (decide ((((a0.getD p1.toNat default).fHops).length : Int) > 10)))) && (decide (p1 > 0))) (decide (0 ≤ p1)), guardB ((!((!r3) || (decide ((((a0.getD p1.toNat default).fHops).length : Int) > 10)))) && (decide (p1 > 0))) (decide (p1 < (a0.length : Int)))] (bif ((!r3) || (decide ((((a0.getD p1.toNat default).fHops).length : Int) > 10))) || ((decide (p1 > 0)) && (decide (r4 ≥ 0))) then (some (.inr (.inr false))) else (some (.inl (wr .i64 (p1 + 1)))))) else (some (.inr (.inl ())))
noncomputable def M.law24_right (a0 : List TForward) : Option Bool :=
  bif decide ((a0.length : Int) > 40) then (some false) else ((loopM (M.law24_right_l1 a0) 0).bind fun y5 => Sum.elim (fun _ => some true) (fun y7 => some y7) y5)
noncomputable def M.addr_clamp (a0 : Int) : Option Int :=
  some (if (if 32 < a0 then 32 else a0) > 0 then (if 32 < a0 then 32 else a0) else 0)
noncomputable def M.addr_Mask (a0 : Int) : Option Int :=
  (M.addr_clamp a0).bind fun r1 => gd [decide (0 ≤ (wr .i64 (32 - r1)))] (some (wr .u32 (4294967295 * 2 ^ min (wr .i64 (32 - r1)).toNat 32)))
noncomputable def M.addr_Contains (a0 : TPrefix) (a1 : Int) : Option Bool :=
  (M.addr_Mask a0.fLen).bind fun r1 => some ((bitD .and .u32 a1 r1) == a0.fAddr)
noncomputable def M.addr_Covers (a0 : TPrefix) (a1 : TPrefix) : Option Bool :=
  (gc (decide (a0.fLen ≤ a1.fLen)) (M.addr_Contains a0 a1.fAddr)).bind fun r1 => some ((decide (a0.fLen ≤ a1.fLen)) && r1)
noncomputable def M.fib_parent_k1 (p1 : Int × Int) (p3 : Int) : Option ((Int × Int) ⊕ Int) :=
  some (.inl (p3, wr .i64 (p1.2 + 1)))
noncomputable def M.fib_parent_l1 (a0 : List TForward) (a1 : Int) (p1 : Int × Int) : Option ((Int × Int) ⊕ Int) :=
  bif decide (p1.2 < (a0.length : Int)) then (gd [decide (0 ≤ p1.2), decide (p1.2 < (a0.length : Int))] ((gc (!(decide ((((a0.getD p1.2.toNat default).fPrefix).fLen) ≥ (((a0.getD a1.toNat default).fPrefix).fLen)))) (M.addr_Covers ((a0.getD p1.2.toNat default).fPrefix) ((a0.getD a1.toNat default).fPrefix))).bind fun r4 => gd [decide (0 ≤ a1), decide (a1 < (a0.length : Int)), guardB (!(decide ((((a0.getD p1.2.toNat default).fPrefix).fLen) ≥ (((a0.getD a1.toNat default).fPrefix).fLen)))) (decide (0 ≤ a1)), guardB (!(decide ((((a0.getD p1.2.toNat default).fPrefix).fLen) ≥ (((a0.getD a1.toNat default).fPrefix).fLen)))) (decide (a1 < (a0.length : Int)))] (bif (decide ((((a0.getD p1.2.toNat default).fPrefix).fLen) ≥ (((a0.getD a1.toNat default).fPrefix).fLen))) || (!r4) then (M.fib_parent_k1 p1 p1.1) else (gd [guardB (!(decide (p1.1 < 0))) (decide (0 ≤ p1.1)), guardB (!(decide (p1.1 < 0))) (decide (p1.1 < (a0.length : Int)))] (bif (decide (p1.1 < 0)) || (decide ((((a0.getD p1.2.toNat default).fPrefix).fLen) > (((a0.getD p1.1.toNat default).fPrefix).fLen))) then (M.fib_parent_k1 p1 p1.2) else (M.fib_parent_k1 p1 p1.1)))))) else (some (.inr p1.1))
noncomputable def M.fib_parent (a0 : List TForward) (a1 : Int) : Option Int :=
  (loopM (M.fib_parent_l1 a0 a1) ((-1), 0)).bind fun y5 => some y5
noncomputable def M.slices_Equal_api_Hop_api_Hop_l1 (a0 : List THop) (a1 : List THop) (p1 : Int) : Option (Int ⊕ (Unit ⊕ Bool)) :=
  bif decide (p1 < (a0.length : Int)) then (gd [decide (0 ≤ p1), decide (p1 < (a0.length : Int)), decide (0 ≤ p1), decide (p1 < (a1.length : Int))] (bif !((((a0.getD p1.toNat default).fIface) == ((a1.getD p1.toNat default).fIface)) && ((((a0.getD p1.toNat default).fAddr) == ((a1.getD p1.toNat default).fAddr)) && true)) then (some (.inr (.inr false))) else (some (.inl (wr .i64 (p1 + 1)))))) else (some (.inr (.inl ())))
noncomputable def M.slices_Equal_api_Hop_api_Hop (a0 : List THop) (a1 : List THop) : Option Bool :=
  bif (a0.length : Int) != (a1.length : Int) then (some false) else ((loopM (M.slices_Equal_api_Hop_api_Hop_l1 a0 a1) 0).bind fun y3 => Sum.elim (fun _ => some true) (fun y5 => some y5) y3)
noncomputable def M.slices_Clone_api_Hop_api_Hop (a0 : List THop) : Option (List THop) :=
  gd [decide (0 = 0) || decide (0 < a0.length), decide ((0 + a0.length) * 16 ≤ 140737488355328)] (some a0)
noncomputable def M.fib_Compress_k1 (p1 : (List TForward) × Int) (p3 : (List TForward)) : Option (((List TForward) × Int) ⊕ (List TForward)) :=
  some (.inl (p3, wr .i64 (p1.2 + 1)))
noncomputable def M.fib_Compress_l1 (a0 : List TForward) (p1 : (List TForward) × Int) : Option (((List TForward) × Int) ⊕ (List TForward)) :=
  bif decide (p1.2 < (a0.length : Int)) then (gd [decide (0 ≤ p1.2), decide (p1.2 < (a0.length : Int))] ((M.fib_parent a0 p1.2).bind fun r4 => (gc (!((decide (r4 < 0)) || (!(((a0.getD p1.2.toNat default).fDiscard) == ((a0.getD r4.toNat default).fDiscard))))) (M.slices_Equal_api_Hop_api_Hop ((a0.getD p1.2.toNat default).fHops) ((a0.getD r4.toNat default).fHops))).bind fun r5 => gd [guardB (!(decide (r4 < 0))) (decide (0 ≤ r4)), guardB (!(decide (r4 < 0))) (decide (r4 < (a0.length : Int))), guardB (!((decide (r4 < 0)) || (!(((a0.getD p1.2.toNat default).fDiscard) == ((a0.getD r4.toNat default).fDiscard))))) (decide (0 ≤ r4)), guardB (!((decide (r4 < 0)) || (!(((a0.getD p1.2.toNat default).fDiscard) == ((a0.getD r4.toNat default).fDiscard))))) (decide (r4 < (a0.length : Int)))] (bif ((decide (r4 < 0)) || (!(((a0.getD p1.2.toNat default).fDiscard) == ((a0.getD r4.toNat default).fDiscard)))) || (!r5) then ((M.slices_Clone_api_Hop_api_Hop ((a0.getD p1.2.toNat default).fHops)).bind fun r6 => gd [decide ((p1.1.length + 1) * 48 ≤ 140737488355328)] (M.fib_Compress_k1 p1 (p1.1 ++ [(⟨(a0.getD p1.2.toNat default).fPrefix, r6, (a0.getD p1.2.toNat default).fDiscard⟩ : TForward)]))) else (M.fib_Compress_k1 p1 p1.1)))) else (some (.inr p1.1))
noncomputable def M.fib_Compress (a0 : List TForward) : Option (List TForward) :=
  (loopM (M.fib_Compress_l1 a0) (([] : List TForward), 0)).bind fun y7 => some y7
noncomputable def M.ref4_Contains (a0 : TPrefix) (a1 : Int) : Option Bool :=
  (M.ref4_Mask a0.fLen).bind fun r1 => some ((bitD .and .u32 a1 r1) == a0.fAddr)
noncomputable def M.ref4_Covers (a0 : TPrefix) (a1 : TPrefix) : Option Bool :=
  (gc (decide (a0.fLen ≤ a1.fLen)) (M.ref4_Contains a0 a1.fAddr)).bind fun r1 => some ((decide (a0.fLen ≤ a1.fLen)) && r1)
noncomputable def M.ref24_SameAction_l1 (a0 : TForward) (a1 : TForward) (p1 : Int) : Option (Int ⊕ (Unit ⊕ Bool)) :=
  bif decide (p1 < (a0.fHops.length : Int)) then (gd [decide (0 ≤ p1), decide (p1 < (a0.fHops.length : Int)), decide (0 ≤ p1), decide (p1 < (a1.fHops.length : Int))] (bif !((((a0.fHops.getD p1.toNat default).fIface) == ((a1.fHops.getD p1.toNat default).fIface)) && ((((a0.fHops.getD p1.toNat default).fAddr) == ((a1.fHops.getD p1.toNat default).fAddr)) && true)) then (some (.inr (.inr false))) else (some (.inl (wr .i64 (p1 + 1)))))) else (some (.inr (.inl ())))
noncomputable def M.ref24_SameAction (a0 : TForward) (a1 : TForward) : Option Bool :=
  bif (!(a0.fDiscard == a1.fDiscard)) || ((a0.fHops.length : Int) != (a1.fHops.length : Int)) then (some false) else ((loopM (M.ref24_SameAction_l1 a0 a1) 0).bind fun y3 => Sum.elim (fun _ => some true) (fun y5 => some y5) y3)
noncomputable def M.ref24_Compress_k1 (p1 : (List TForward) × Int) (p3 : (List TForward)) : Option (((List TForward) × Int) ⊕ (List TForward)) :=
  some (.inl (p3, wr .i64 (p1.2 + 1)))
noncomputable def M.ref24_Compress_k2 (p4 : Int × Int) (p6 : Int) : Option ((Int × Int) ⊕ Int) :=
  some (.inl (p6, wr .i64 (p4.2 + 1)))
noncomputable def M.ref24_Compress_l2 (a0 : List TForward) (p1 : (List TForward) × Int) (p4 : Int × Int) : Option ((Int × Int) ⊕ Int) :=
  bif decide (p4.2 < (a0.length : Int)) then ((gc (decide ((((a0.getD p4.2.toNat default).fPrefix).fLen) < (((a0.getD p1.2.toNat default).fPrefix).fLen))) (M.ref4_Covers ((a0.getD p4.2.toNat default).fPrefix) ((a0.getD p1.2.toNat default).fPrefix))).bind fun r7 => gd [decide (0 ≤ p4.2), decide (p4.2 < (a0.length : Int)), decide (0 ≤ p1.2), decide (p1.2 < (a0.length : Int)), guardB (decide ((((a0.getD p4.2.toNat default).fPrefix).fLen) < (((a0.getD p1.2.toNat default).fPrefix).fLen))) (decide (0 ≤ p4.2)), guardB (decide ((((a0.getD p4.2.toNat default).fPrefix).fLen) < (((a0.getD p1.2.toNat default).fPrefix).fLen))) (decide (p4.2 < (a0.length : Int))), guardB (decide ((((a0.getD p4.2.toNat default).fPrefix).fLen) < (((a0.getD p1.2.toNat default).fPrefix).fLen))) (decide (0 ≤ p1.2)), guardB (decide ((((a0.getD p4.2.toNat default).fPrefix).fLen) < (((a0.getD p1.2.toNat default).fPrefix).fLen))) (decide (p1.2 < (a0.length : Int))), guardB (((decide ((((a0.getD p4.2.toNat default).fPrefix).fLen) < (((a0.getD p1.2.toNat default).fPrefix).fLen))) && r7) && !(decide (p4.1 < 0))) (decide (0 ≤ p4.2)), guardB (((decide ((((a0.getD p4.2.toNat default).fPrefix).fLen) < (((a0.getD p1.2.toNat default).fPrefix).fLen))) && r7) && !(decide (p4.1 < 0))) (decide (p4.2 < (a0.length : Int))), guardB (((decide ((((a0.getD p4.2.toNat default).fPrefix).fLen) < (((a0.getD p1.2.toNat default).fPrefix).fLen))) && r7) && !(decide (p4.1 < 0))) (decide (0 ≤ p4.1)), guardB (((decide ((((a0.getD p4.2.toNat default).fPrefix).fLen) < (((a0.getD p1.2.toNat default).fPrefix).fLen))) && r7) && !(decide (p4.1 < 0))) (decide (p4.1 < (a0.length : Int)))] (bif ((decide ((((a0.getD p4.2.toNat default).fPrefix).fLen) < (((a0.getD p1.2.toNat default).fPrefix).fLen))) && r7) && ((decide (p4.1 < 0)) || (decide ((((a0.getD p4.2.toNat default).fPrefix).fLen) > (((a0.getD p4.1.toNat default).fPrefix).fLen)))) then (M.ref24_Compress_k2 p4 p4.2) else (M.ref24_Compress_k2 p4 p4.1))) else (some (.inr p4.1))
noncomputable def M.ref24_Compress_l1 (a0 : List TForward) (p1 : (List TForward) × Int) : Option (((List TForward) × Int) ⊕ (List TForward)) :=
  bif decide (p1.2 < (a0.length : Int)) then ((loopM (M.ref24_Compress_l2 a0 p1) ((-1), 0)).bind fun y8 => (gc (!(decide (y8 < 0))) (M.ref24_SameAction (a0.getD y8.toNat default) (a0.getD p1.2.toNat default))).bind fun r9 => gd [guardB (!(decide (y8 < 0))) (decide (0 ≤ y8)), guardB (!(decide (y8 < 0))) (decide (y8 < (a0.length : Int))), guardB (!(decide (y8 < 0))) (decide (0 ≤ p1.2)), guardB (!(decide (y8 < 0))) (decide (p1.2 < (a0.length : Int)))] (bif (decide (y8 < 0)) || (!r9) then (gd [decide (0 ≤ p1.2), decide (p1.2 < (a0.length : Int)), decide ((p1.1.length + 1) * 48 ≤ 140737488355328)] (M.ref24_Compress_k1 p1 (p1.1 ++ [a0.getD p1.2.toNat default]))) else (M.ref24_Compress_k1 p1 p1.1))) else (some (.inr p1.1))
noncomputable def M.ref24_Compress (a0 : List TForward) : Option (List TForward) :=
  (loopM (M.ref24_Compress_l1 a0) (([] : List TForward), 0)).bind fun y10 => some y10
noncomputable def M.ref24_SameForwards_l1 (a0 : List TForward) (a1 : List TForward) (p1 : Int) : Option (Int ⊕ (Unit ⊕ Bool)) :=
  bif decide (p1 < (a0.length : Int)) then ((gc (!(!(((((a0.getD p1.toNat default).fPrefix).fAddr) == (((a1.getD p1.toNat default).fPrefix).fAddr)) && (((((a0.getD p1.toNat default).fPrefix).fLen) == (((a1.getD p1.toNat default).fPrefix).fLen)) && true)))) (M.ref24_SameAction (a0.getD p1.toNat default) (a1.getD p1.toNat default))).bind fun r3 => gd [decide (0 ≤ p1), decide (p1 < (a0.length : Int)), decide (0 ≤ p1), decide (p1 < (a1.length : Int)), guardB (!(!(((((a0.getD p1.toNat default).fPrefix).fAddr) == (((a1.getD p1.toNat default).fPrefix).fAddr)) && (((((a0.getD p1.toNat default).fPrefix).fLen) == (((a1.getD p1.toNat default).fPrefix).fLen)) && true)))) (decide (0 ≤ p1)), guardB (!(!(((((a0.getD p1.toNat default).fPrefix).fAddr) == (((a1.getD p1.toNat default).fPrefix).fAddr)) && (((((a0.getD p1.toNat default).fPrefix).fLen) == (((a1.getD p1.toNat default).fPrefix).fLen)) && true)))) (decide (p1 < (a0.length : Int))), guardB (!(!(((((a0.getD p1.toNat default).fPrefix).fAddr) == (((a1.getD p1.toNat default).fPrefix).fAddr)) && (((((a0.getD p1.toNat default).fPrefix).fLen) == (((a1.getD p1.toNat default).fPrefix).fLen)) && true)))) (decide (0 ≤ p1)), guardB (!(!(((((a0.getD p1.toNat default).fPrefix).fAddr) == (((a1.getD p1.toNat default).fPrefix).fAddr)) && (((((a0.getD p1.toNat default).fPrefix).fLen) == (((a1.getD p1.toNat default).fPrefix).fLen)) && true)))) (decide (p1 < (a1.length : Int)))] (bif (!(((((a0.getD p1.toNat default).fPrefix).fAddr) == (((a1.getD p1.toNat default).fPrefix).fAddr)) && (((((a0.getD p1.toNat default).fPrefix).fLen) == (((a1.getD p1.toNat default).fPrefix).fLen)) && true))) || (!r3) then (some (.inr (.inr false))) else (some (.inl (wr .i64 (p1 + 1)))))) else (some (.inr (.inl ())))
noncomputable def M.ref24_SameForwards (a0 : List TForward) (a1 : List TForward) : Option Bool :=
  bif (a0.length : Int) != (a1.length : Int) then (some false) else ((loopM (M.ref24_SameForwards_l1 a0 a1) 0).bind fun y4 => Sum.elim (fun _ => some true) (fun y6 => some y6) y4)
noncomputable def M.scan_letter (a0 : Int) : Option Bool :=
  some (((decide (65 ≤ a0)) && (decide (a0 ≤ 90))) || ((decide (97 ≤ a0)) && (decide (a0 ≤ 122))))
noncomputable def M.scan_digit (a0 : Int) : Option Bool :=
  some ((decide (48 ≤ a0)) && (decide (a0 ≤ 57)))
noncomputable def M.scan_Name_l1 (a0 : ByteArray) (p2 : Int) : Option (Int ⊕ Unit) :=
  bif decide (p2 < (a0.size : Int)) then (gd [decide (0 ≤ p2), decide (p2 < (a0.size : Int))] ((M.scan_letter (byteAt a0 p2)).bind fun r4 => (gc (!r4) (M.scan_digit (byteAt a0 p2))).bind fun r5 => bif (((((!r4) && (!r5)) && ((byteAt a0 p2) != 45)) && ((byteAt a0 p2) != 95)) && ((byteAt a0 p2) != 47)) && ((byteAt a0 p2) != 46) then none else (some (.inl (wr .i64 (p2 + 1)))))) else (some (.inr ()))
noncomputable def M.scan_Name (a0 : ByteArray) : Option Bool :=
  (gc (!((decide ((a0.size : Int) < 1)) || (decide ((a0.size : Int) > 15)))) (M.scan_letter (byteAt a0 0))).bind fun r1 => gd [guardB (!((decide ((a0.size : Int) < 1)) || (decide ((a0.size : Int) > 15)))) (decide (0 ≤ 0)), guardB (!((decide ((a0.size : Int) < 1)) || (decide ((a0.size : Int) > 15)))) (decide (0 < (a0.size : Int)))] (bif ((decide ((a0.size : Int) < 1)) || (decide ((a0.size : Int) > 15))) || (!r1) then none else ((loopM (M.scan_Name_l1 a0) 1).bind fun y6 => some true))
noncomputable def M.model_within (a0 : Int) (a1 : Int) (a2 : Int) : Option Bool :=
  some ((decide (a1 ≤ a0)) && (decide (a0 ≤ a2)))
noncomputable def M.model_Interface_1 (a0 : TInterface) (b0 : ByteArray) : Option Bool :=
  some (strEq a0.fName b0)
noncomputable def M.slices_IndexFunc_api_Interface_api_Interface__model_Interface_1_l1 (a0 : List TInterface) (a1c0 : ByteArray) (p1 : Int) : Option (Int ⊕ (Unit ⊕ Int)) :=
  bif decide (p1 < (a0.length : Int)) then ((M.model_Interface_1 (a0.getD p1.toNat default) a1c0).bind fun r3 => gd [decide (0 ≤ p1), decide (p1 < (a0.length : Int))] (bif r3 then (some (.inr (.inr p1))) else (some (.inl (wr .i64 (p1 + 1)))))) else (some (.inr (.inl ())))
noncomputable def M.slices_IndexFunc_api_Interface_api_Interface__model_Interface_1 (a0 : List TInterface) (a1c0 : ByteArray) : Option Int :=
  (loopM (M.slices_IndexFunc_api_Interface_api_Interface__model_Interface_1_l1 a0 a1c0) 0).bind fun y4 => Sum.elim (fun _ => some (-1)) (fun y6 => some y6) y4
noncomputable def M.model_Interface (a0 : TRouter) (a1 : ByteArray) : Option Int :=
  (M.slices_IndexFunc_api_Interface_api_Interface__model_Interface_1 a0.fInterfaces a1).bind fun r1 => some r1
noncomputable def M.model_rightInterface (a0 : TInterface) : Option Bool :=
  (M.model_within a0.fLen 0 32).bind fun r1 => (gc (!(!r1)) (M.model_within a0.fVLAN 0 4094)).bind fun r2 => (gc (!((!r1) || (!r2))) (M.model_within a0.fSide 0 2)).bind fun r3 => bif ((!r1) || (!r2)) || (!r3) then none else (bif (a0.fLen == 0) && (((((((a0.fAddr != 0) || (a0.fVLAN != 0)) || (a0.fSide != 0)) || a0.fLS) || a0.fDV) || (!strEq a0.fIn (⟨#[]⟩ : ByteArray))) || (!strEq a0.fOut (⟨#[]⟩ : ByteArray))) then none else (bif (a0.fLen != 0) && (a0.fAddr == 0) then none else (bif a0.fLS then none else (some ((a0.fArea == 0) && (a0.fCost == 0))))))
noncomputable def M.model_checkInterfaces_l2 (p1 : Int) (p6 : Int) : Option (Int ⊕ Unit) :=
  bif decide (p6 < ((p1.toNat - 0 : Nat) : Int)) then none else (some (.inr ()))
noncomputable def M.model_checkInterfaces_l1 (a0 : TRouter) (p1 : Int) : Option (Int ⊕ Unit) :=
  bif decide (p1 < (a0.fInterfaces.length : Int)) then (gd [decide (0 ≤ p1), decide (p1 < (a0.fInterfaces.length : Int))] ((M.scan_Name ((a0.fInterfaces.getD p1.toNat default).fName)).bind fun r3 => bif !r3 then none else ((M.model_Interface a0 ((a0.fInterfaces.getD p1.toNat default).fName)).bind fun r4 => bif decide (r4 < p1) then none else ((M.model_rightInterface (a0.fInterfaces.getD p1.toNat default)).bind fun r5 => bif !r5 then none else (gd [decide (0 ≤ p1), decide (p1 ≤ (a0.fInterfaces.length : Int))] ((loopM (M.model_checkInterfaces_l2 p1) 0).bind fun y8 => some (.inl (wr .i64 (p1 + 1))))))))) else (some (.inr ()))
noncomputable def M.model_checkInterfaces (a0 : TRouter) : Option Int :=
  bif decide ((a0.fInterfaces.length : Int) > 8) then none else ((loopM (M.model_checkInterfaces_l1 a0) 0).bind fun y9 => some 0)
noncomputable def M.model_checkPrefixLists_l1 (a0 : TRouter) (p1 : Int) : Option (Int ⊕ Unit) :=
  bif decide (p1 < (a0.fLists.length : Int)) then none else (some (.inr ()))
noncomputable def M.model_checkPrefixLists (a0 : TRouter) : Option Int :=
  bif decide ((a0.fLists.length : Int) > 8) then none else ((loopM (M.model_checkPrefixLists_l1 a0) 0).bind fun y3 => some 0)
noncomputable def M.model_checkRouteMaps_l1 (a0 : TRouter) (p1 : Int) : Option (Int ⊕ Unit) :=
  bif decide (p1 < (a0.fMaps.length : Int)) then none else (some (.inr ()))
noncomputable def M.model_checkRouteMaps (a0 : TRouter) : Option Int :=
  bif decide ((a0.fMaps.length : Int) > 8) then none else ((loopM (M.model_checkRouteMaps_l1 a0) 0).bind fun y3 => some 0)
noncomputable def M.model_checkACLs_l1 (a0 : TRouter) (p1 : Int) : Option (Int ⊕ Unit) :=
  bif decide (p1 < (a0.fACLs.length : Int)) then none else (some (.inr ()))
noncomputable def M.model_checkACLs (a0 : TRouter) : Option Int :=
  bif decide ((a0.fACLs.length : Int) > 8) then none else ((loopM (M.model_checkACLs_l1 a0) 0).bind fun y3 => some 0)
noncomputable def M.model_checkNAT_l1 (a0 : TRouter) (p1 : Int) : Option (Int ⊕ Unit) :=
  bif decide (p1 < (a0.fNAT.length : Int)) then none else (some (.inr ()))
noncomputable def M.model_checkNAT (a0 : TRouter) : Option Int :=
  bif decide ((a0.fNAT.length : Int) > 8) then none else ((loopM (M.model_checkNAT_l1 a0) 0).bind fun y3 => some 0)
noncomputable def M.model_ACL (_a0 : TRouter) (_a1 : ByteArray) : Option Int :=
  none
noncomputable def M.model_checkFilters_l1 (a0 : TRouter) (p1 : Int) : Option (Int ⊕ Unit) :=
  bif decide (p1 < (a0.fInterfaces.length : Int)) then (gd [decide (0 ≤ p1), decide (p1 < (a0.fInterfaces.length : Int))] ((gc (!strEq ((a0.fInterfaces.getD p1.toNat default).fIn) (⟨#[]⟩ : ByteArray)) (M.model_ACL a0 ((a0.fInterfaces.getD p1.toNat default).fIn))).bind fun r3 => (gc ((!((!strEq ((a0.fInterfaces.getD p1.toNat default).fIn) (⟨#[]⟩ : ByteArray)) && (decide (r3 < 0)))) && (!strEq ((a0.fInterfaces.getD p1.toNat default).fOut) (⟨#[]⟩ : ByteArray))) (M.model_ACL a0 ((a0.fInterfaces.getD p1.toNat default).fOut))).bind fun r4 => bif ((!strEq ((a0.fInterfaces.getD p1.toNat default).fIn) (⟨#[]⟩ : ByteArray)) && (decide (r3 < 0))) || ((!strEq ((a0.fInterfaces.getD p1.toNat default).fOut) (⟨#[]⟩ : ByteArray)) && (decide (r4 < 0))) then none else (some (.inl (wr .i64 (p1 + 1)))))) else (some (.inr ()))
noncomputable def M.model_checkFilters (a0 : TRouter) : Option Int :=
  (loopM (M.model_checkFilters_l1 a0) 0).bind fun y5 => some 0
noncomputable def M.addr_Valid (a0 : TPrefix) : Option Bool :=
  (gc ((decide (a0.fLen ≥ 0)) && (decide (a0.fLen ≤ 32))) (M.addr_Mask a0.fLen)).bind fun r1 => some (((decide (a0.fLen ≥ 0)) && (decide (a0.fLen ≤ 32))) && ((bitD .andNot .u32 a0.fAddr r1) == 0))
noncomputable def M.model_Address_1 (a0 : TInterface) (b0 : Int) : Option Bool :=
  some ((a0.fLen != 0) && (a0.fAddr == b0))
noncomputable def M.slices_IndexFunc_api_Interface_api_Interface__model_Address_1_l1 (a0 : List TInterface) (a1c0 : Int) (p1 : Int) : Option (Int ⊕ (Unit ⊕ Int)) :=
  bif decide (p1 < (a0.length : Int)) then ((M.model_Address_1 (a0.getD p1.toNat default) a1c0).bind fun r3 => gd [decide (0 ≤ p1), decide (p1 < (a0.length : Int))] (bif r3 then (some (.inr (.inr p1))) else (some (.inl (wr .i64 (p1 + 1)))))) else (some (.inr (.inl ())))
noncomputable def M.slices_IndexFunc_api_Interface_api_Interface__model_Address_1 (a0 : List TInterface) (a1c0 : Int) : Option Int :=
  (loopM (M.slices_IndexFunc_api_Interface_api_Interface__model_Address_1_l1 a0 a1c0) 0).bind fun y4 => Sum.elim (fun _ => some (-1)) (fun y6 => some y6) y4
noncomputable def M.model_Address (a0 : TRouter) (a1 : Int) : Option Int :=
  (M.slices_IndexFunc_api_Interface_api_Interface__model_Address_1 a0.fInterfaces a1).bind fun r1 => some r1
noncomputable def M.model_rightStatic_k1 (p1 : Int × Int) (p3 : Int) : Option ((Int × Int) ⊕ Int) :=
  some (.inl (p3, wr .i64 (p1.2 + 1)))
noncomputable def M.model_rightStatic_l1 (a1 : TStaticRoute) (p1 : Int × Int) : Option ((Int × Int) ⊕ Int) :=
  bif decide (p1.2 < 3) then (gd [decide (0 ≤ p1.2), decide (p1.2 < (([a1.fNext != 0, !strEq a1.fIface (⟨#[]⟩ : ByteArray), a1.fDiscard] : List Bool).length : Int))] (bif ([a1.fNext != 0, !strEq a1.fIface (⟨#[]⟩ : ByteArray), a1.fDiscard] : List Bool).getD p1.2.toNat default then (M.model_rightStatic_k1 p1 (wr .i64 (p1.1 + 1))) else (M.model_rightStatic_k1 p1 p1.1))) else (some (.inr p1.1))
noncomputable def M.model_rightStatic (a0 : TRouter) (a1 : TStaticRoute) : Option Bool :=
  (loopM (M.model_rightStatic_l1 a1) (0, 0)).bind fun y4 => (M.addr_Valid a1.fPrefix).bind fun r5 => (gc ((r5 && (y4 == 1)) && !(a1.fNext == 0)) (M.model_Address a0 a1.fNext)).bind fun r6 => (gc ((r5 && (y4 == 1)) && ((a1.fNext == 0) || (decide (r6 < 0)))) (M.model_within a1.fAdmin 1 255)).bind fun r7 => (gc (((r5 && (y4 == 1)) && ((a1.fNext == 0) || (decide (r6 < 0)))) && r7) (M.model_within a1.fTag 0 65535)).bind fun r8 => some ((((r5 && (y4 == 1)) && ((a1.fNext == 0) || (decide (r6 < 0)))) && r7) && r8)
noncomputable def M.model_checkStatics_l2 (p1 : Int) (p5 : Int) : Option (Int ⊕ Unit) :=
  bif decide (p5 < ((p1.toNat - 0 : Nat) : Int)) then none else (some (.inr ()))
noncomputable def M.model_checkStatics_k1 (a0 : TRouter) (p1 : Int) (_p4 : Unit) : Option (Int ⊕ Unit) :=
  gd [decide (0 ≤ p1), decide (p1 ≤ (a0.fStatics.length : Int))] ((loopM (M.model_checkStatics_l2 p1) 0).bind fun y7 => some (.inl (wr .i64 (p1 + 1))))
noncomputable def M.model_checkStatics_l1 (a0 : TRouter) (p1 : Int) : Option (Int ⊕ Unit) :=
  bif decide (p1 < (a0.fStatics.length : Int)) then (gd [decide (0 ≤ p1), decide (p1 < (a0.fStatics.length : Int))] ((M.model_rightStatic a0 (a0.fStatics.getD p1.toNat default)).bind fun r3 => bif !r3 then none else (bif !strEq ((a0.fStatics.getD p1.toNat default).fIface) (⟨#[]⟩ : ByteArray) then none else (M.model_checkStatics_k1 a0 p1 ())))) else (some (.inr ()))
noncomputable def M.model_checkStatics (a0 : TRouter) : Option Int :=
  bif decide ((a0.fStatics.length : Int) > 16) then none else ((loopM (M.model_checkStatics_l1 a0) 0).bind fun y8 => some 0)
noncomputable def M.model_checkLinkState (a0 : TRouter) : Option Int :=
  bif !a0.fLS.fOn then (bif ((a0.fLS.fAdmin != 0) || (decide ((a0.fLS.fRanges.length : Int) > 0))) || (decide ((a0.fLS.fRedist.length : Int) > 0)) then none else (some 0)) else none
noncomputable def M.model_checkDistanceVector (a0 : TRouter) : Option Int :=
  bif !a0.fDV.fOn then (bif (((a0.fDV.fAdmin != 0) || (!strEq a0.fDV.fIn (⟨#[]⟩ : ByteArray))) || (!strEq a0.fDV.fOut (⟨#[]⟩ : ByteArray))) || (decide ((a0.fDV.fRedist.length : Int) > 0)) then none else (some 0)) else none
noncomputable def M.model_checkPathVector (a0 : TRouter) : Option Int :=
  bif !a0.fPV.fOn then (bif ((((((a0.fPV.fExternal != 0) || (a0.fPV.fInternal != 0)) || (decide ((a0.fPV.fNeighbors.length : Int) > 0))) || (decide ((a0.fPV.fNetworks.length : Int) > 0))) || (decide ((a0.fPV.fAggregates.length : Int) > 0))) || (decide ((a0.fPV.fConditions.length : Int) > 0))) || (decide ((a0.fPV.fRedist.length : Int) > 0)) then none else (some 0)) else none
noncomputable def M.model_CheckRouter (a0 : TRouter) : Option Int :=
  (M.scan_Name a0.fName).bind fun r1 => bif !r1 then none else ((M.model_within a0.fAS 0 65535).bind fun r2 => bif !r2 then none else (gd [decide (0 ≤ 0), decide (0 < (10 : Int))] ((M.model_checkInterfaces a0).bind fun r3 => bif r3 != 0 then none else (gd [decide (0 ≤ 1), decide (1 < (10 : Int))] ((M.model_checkPrefixLists a0).bind fun r4 => bif r4 != 0 then none else (gd [decide (0 ≤ 2), decide (2 < (10 : Int))] ((M.model_checkRouteMaps a0).bind fun r5 => bif r5 != 0 then none else (gd [decide (0 ≤ 3), decide (3 < (10 : Int))] ((M.model_checkACLs a0).bind fun r6 => bif r6 != 0 then none else (gd [decide (0 ≤ 4), decide (4 < (10 : Int))] ((M.model_checkNAT a0).bind fun r7 => bif r7 != 0 then none else (gd [decide (0 ≤ 5), decide (5 < (10 : Int))] ((M.model_checkFilters a0).bind fun r8 => bif r8 != 0 then none else (gd [decide (0 ≤ 6), decide (6 < (10 : Int))] ((M.model_checkStatics a0).bind fun r9 => bif r9 != 0 then none else (gd [decide (0 ≤ 7), decide (7 < (10 : Int))] ((M.model_checkLinkState a0).bind fun r10 => bif r10 != 0 then none else (gd [decide (0 ≤ 8), decide (8 < (10 : Int))] ((M.model_checkDistanceVector a0).bind fun r11 => bif r11 != 0 then none else (gd [decide (0 ≤ 9), decide (9 < (10 : Int))] ((M.model_checkPathVector a0).bind fun r12 => bif r12 != 0 then none else (some 0))))))))))))))))))))))
noncomputable def M.model_Check_l2 (p1 : Int) (p4 : Int) : Option (Int ⊕ Unit) :=
  bif decide (p4 < ((p1.toNat - 0 : Nat) : Int)) then none else (some (.inr ()))
noncomputable def M.model_Check_l1 (a0 : TNetwork) (p1 : Int) : Option (Int ⊕ Unit) :=
  bif decide (p1 < (a0.fRouters.length : Int)) then (gd [decide (0 ≤ p1), decide (p1 < (a0.fRouters.length : Int))] ((M.model_CheckRouter (a0.fRouters.getD p1.toNat default)).bind fun r3 => bif r3 != 0 then none else (gd [decide (0 ≤ p1), decide (p1 ≤ (a0.fRouters.length : Int))] ((loopM (M.model_Check_l2 p1) 0).bind fun y6 => some (.inl (wr .i64 (p1 + 1))))))) else (some (.inr ()))
noncomputable def M.model_Check (a0 : TNetwork) : Option Int :=
  bif decide ((a0.fRouters.length : Int) > 8) then none else ((loopM (M.model_Check_l1 a0) 0).bind fun y7 => some 0)
noncomputable def M.addr_Network (a0 : Int) (a1 : Int) : Option TPrefix :=
  (M.addr_Mask a1).bind fun r1 => (M.addr_clamp a1).bind fun r2 => some (⟨bitD .and .u32 a0 r1, r2⟩ : TPrefix)
noncomputable def M.topo_collect_k (i : Int) (p : (List TDomain) × (List (TdomainKey × Int)) × Int) (q : (List TDomain) × (List (TdomainKey × Int)) × Int) : Option (((List TDomain) × (List (TdomainKey × Int)) × Int) ⊕ ((List TDomain) × (List (TdomainKey × Int)))) :=
  gd [decide (0 ≤ q.2.2), decide (q.2.2 < (q.1.length : Int)), decide (((q.1.getD (0 + q.2.2.toNat) default).fEnds.length + 1) * 16 ≤ 140737488355328)] (some (.inl (q.1.set (0 + q.2.2.toNat) ⟨(q.1.getD (0 + q.2.2.toNat) default).fPrefix, (q.1.getD (0 + q.2.2.toNat) default).fVLAN, (q.1.getD (0 + q.2.2.toNat) default).fEnds ++ [⟨i, p.2.2⟩]⟩, q.2.1, wr .i64 (p.2.2 + 1))))
noncomputable def M.topo_collect_l2 (a0 : TNetwork) (i : Int) (p : (List TDomain) × (List (TdomainKey × Int)) × Int) : Option (((List TDomain) × (List (TdomainKey × Int)) × Int) ⊕ ((List TDomain) × (List (TdomainKey × Int)))) :=
  bif decide (p.2.2 < (((a0.fRouters.getD i.toNat default).fInterfaces).length : Int)) then (gd [decide (0 ≤ p.2.2), decide (p.2.2 < (((a0.fRouters.getD i.toNat default).fInterfaces).length : Int))] (bif (((a0.fRouters.getD i.toNat default).fInterfaces.getD p.2.2.toNat default).fLen == 0) || ((a0.fRouters.getD i.toNat default).fInterfaces.getD p.2.2.toNat default).fDown then (some (.inl (p.1, p.2.1, wr .i64 (p.2.2 + 1)))) else ((M.addr_Network ((a0.fRouters.getD i.toNat default).fInterfaces.getD p.2.2.toNat default).fAddr ((a0.fRouters.getD i.toNat default).fInterfaces.getD p.2.2.toNat default).fLen).bind fun r => bif !(lkM (topoKeyEq ⟨r, ((a0.fRouters.getD i.toNat default).fInterfaces.getD p.2.2.toNat default).fVLAN⟩) p.2.1).2 then (gd [decide ((p.1.length + 1) * 48 ≤ 140737488355328)] (M.topo_collect_k i p (p.1 ++ [⟨r, ((a0.fRouters.getD i.toNat default).fInterfaces.getD p.2.2.toNat default).fVLAN, []⟩], p.2.1 ++ [(⟨r, ((a0.fRouters.getD i.toNat default).fInterfaces.getD p.2.2.toNat default).fVLAN⟩, (p.1.length : Int))], (p.1.length : Int)))) else (M.topo_collect_k i p (p.1, p.2.1, (lkM (topoKeyEq ⟨r, ((a0.fRouters.getD i.toNat default).fInterfaces.getD p.2.2.toNat default).fVLAN⟩) p.2.1).1))))) else (some (.inr (p.1, p.2.1)))
noncomputable def M.topo_collect_l1 (a0 : TNetwork) (p : (List TDomain) × (List (TdomainKey × Int)) × Int) : Option (((List TDomain) × (List (TdomainKey × Int)) × Int) ⊕ (List TDomain)) :=
  bif decide (p.2.2 < (a0.fRouters.length : Int)) then (gd [decide (0 ≤ p.2.2), decide (p.2.2 < (a0.fRouters.length : Int))] ((loopM (M.topo_collect_l2 a0 p.2.2) (p.1, p.2.1, 0)).bind fun y => some (.inl (y.1, y.2, wr .i64 (p.2.2 + 1))))) else (some (.inr p.1))
noncomputable def M.topo_collect (a0 : TNetwork) : Option (List TDomain) :=
  (loopM (M.topo_collect_l1 a0) ([], [], 0)).bind fun y => some y
noncomputable def M.cmp_isNaN_uint32 (a0 : Int) : Option Bool :=
  some (a0 != a0)
noncomputable def M.cmp_Compare_uint32 (a0 : Int) (a1 : Int) : Option Int :=
  (M.cmp_isNaN_uint32 a0).bind fun r1 => (M.cmp_isNaN_uint32 a1).bind fun r2 => bif r1 then (bif r2 then (some 0) else (some (-1))) else (bif r2 then (some 1) else (bif decide (a0 < a1) then (some (-1)) else (bif decide (a0 > a1) then (some 1) else (some 0))))
noncomputable def M.cmp_isNaN_int (a0 : Int) : Option Bool :=
  some (a0 != a0)
noncomputable def M.cmp_Compare_int (a0 : Int) (a1 : Int) : Option Int :=
  (M.cmp_isNaN_int a0).bind fun r1 => (M.cmp_isNaN_int a1).bind fun r2 => bif r1 then (bif r2 then (some 0) else (some (-1))) else (bif r2 then (some 1) else (bif decide (a0 < a1) then (some (-1)) else (bif decide (a0 > a1) then (some 1) else (some 0))))
noncomputable def M.addr_Compare (a0 : TPrefix) (a1 : TPrefix) : Option Int :=
  (M.cmp_Compare_uint32 a0.fAddr a1.fAddr).bind fun r1 => bif r1 != 0 then (some r1) else ((M.cmp_Compare_int a0.fLen a1.fLen).bind fun r2 => some r2)
noncomputable def M.cmp_Or_int_l1 (a0 : List Int) (p1 : Int) : Option (Int ⊕ (Unit ⊕ Int)) :=
  bif decide (p1 < (a0.length : Int)) then (gd [decide (0 ≤ p1), decide (p1 < (a0.length : Int))] (bif (a0.getD p1.toNat default) != 0 then (some (.inr (.inr (a0.getD p1.toNat default)))) else (some (.inl (wr .i64 (p1 + 1)))))) else (some (.inr (.inl ())))
noncomputable def M.cmp_Or_int (a0 : List Int) : Option Int :=
  (loopM (M.cmp_Or_int_l1 a0) 0).bind fun y3 => Sum.elim (fun _ => some 0) (fun y5 => some y5) y3
noncomputable def M.topo_Build_1 (a0 : TDomain) (a1 : TDomain) : Option Int :=
  (M.addr_Compare a0.fPrefix a1.fPrefix).bind fun r1 => (M.cmp_Compare_int a0.fVLAN a1.fVLAN).bind fun r2 => (M.cmp_Or_int ([r1, r2] : List Int)).bind fun r3 => some r3
noncomputable def M.slices_SortFunc_api_Domain_api_Domain__topo_Build_1 (a0 : List TDomain) : Option (List TDomain) :=
  sortU M.topo_Build_1 a0
noncomputable def M.topo_Build_k1 (p4 : Int) (_p6 : Unit) : Option (Int ⊕ Unit) :=
  some (.inl (wr .i64 (p4 + 1)))
noncomputable def M.topo_Build_l1 (r3 : (List TDomain)) (p4 : Int) : Option (Int ⊕ Unit) :=
  bif decide (p4 < (r3.length : Int)) then (gd [decide (0 ≤ p4), decide (p4 < (r3.length : Int))] (bif decide ((((r3.getD p4.toNat default).fEnds).length : Int) ≥ 2) then none else (M.topo_Build_k1 p4 ()))) else (some (.inr ()))
noncomputable def M.topo_Build (a0 : TNetwork) : Option (TTopology × Int) :=
  (M.model_Check a0).bind fun r1 => bif r1 != 0 then none else ((M.topo_collect a0).bind fun r2 => (M.slices_SortFunc_api_Domain_api_Domain__topo_Build_1 r2).bind fun r3 => gd [decide (r3.length = r2.length)] ((loopM (M.topo_Build_l1 r3) 0).bind fun y7 => some ((⟨r3, ([] : List Int)⟩ : TTopology), 0)))
noncomputable def M.slices_Clone_api_Router_api_Router (a0 : List TRouter) : Option (List TRouter) :=
  gd [decide (0 = 0) || decide (0 < a0.length), decide ((0 + a0.length) * 448 ≤ 140737488355328)] (some a0)
noncomputable def M.slices_Clone_api_Interface_api_Interface (a0 : List TInterface) : Option (List TInterface) :=
  gd [decide (0 = 0) || decide (0 < a0.length), decide ((0 + a0.length) * 112 ≤ 140737488355328)] (some a0)
noncomputable def M.slices_Clone_api_PrefixList_api_PrefixList (a0 : List TPrefixList) : Option (List TPrefixList) :=
  gd [decide (0 = 0) || decide (0 < a0.length), decide ((0 + a0.length) * 40 ≤ 140737488355328)] (some a0)
noncomputable def M.slices_Clone_api_RouteMap_api_RouteMap (a0 : List TRouteMap) : Option (List TRouteMap) :=
  gd [decide (0 = 0) || decide (0 < a0.length), decide ((0 + a0.length) * 40 ≤ 140737488355328)] (some a0)
noncomputable def M.slices_Clone_api_ACL_api_ACL (a0 : List TACL) : Option (List TACL) :=
  gd [decide (0 = 0) || decide (0 < a0.length), decide ((0 + a0.length) * 40 ≤ 140737488355328)] (some a0)
noncomputable def M.slices_Clone_api_Translation_api_Translation (a0 : List TTranslation) : Option (List TTranslation) :=
  gd [decide (0 = 0) || decide (0 < a0.length), decide ((0 + a0.length) * 64 ≤ 140737488355328)] (some a0)
noncomputable def M.slices_Clone_api_StaticRoute_api_StaticRoute (a0 : List TStaticRoute) : Option (List TStaticRoute) :=
  gd [decide (0 = 0) || decide (0 < a0.length), decide ((0 + a0.length) * 64 ≤ 140737488355328)] (some a0)
noncomputable def M.slices_Clone_api_AreaRange_api_AreaRange (a0 : List TAreaRange) : Option (List TAreaRange) :=
  gd [decide (0 = 0) || decide (0 < a0.length), decide ((0 + a0.length) * 24 ≤ 140737488355328)] (some a0)
noncomputable def M.slices_Clone_api_Redist_api_Redist (a0 : List TRedist) : Option (List TRedist) :=
  gd [decide (0 = 0) || decide (0 < a0.length), decide ((0 + a0.length) * 48 ≤ 140737488355328)] (some a0)
noncomputable def M.slices_Clone_api_Neighbor_api_Neighbor (a0 : List TNeighbor) : Option (List TNeighbor) :=
  gd [decide (0 = 0) || decide (0 < a0.length), decide ((0 + a0.length) * 48 ≤ 140737488355328)] (some a0)
noncomputable def M.slices_Clone_api_Prefix_api_Prefix (a0 : List TPrefix) : Option (List TPrefix) :=
  gd [decide (0 = 0) || decide (0 < a0.length), decide ((0 + a0.length) * 16 ≤ 140737488355328)] (some a0)
noncomputable def M.slices_Clone_api_Aggregate_api_Aggregate (a0 : List TAggregate) : Option (List TAggregate) :=
  gd [decide (0 = 0) || decide (0 < a0.length), decide ((0 + a0.length) * 24 ≤ 140737488355328)] (some a0)
noncomputable def M.slices_Clone_api_Condition_api_Condition (a0 : List TCondition) : Option (List TCondition) :=
  gd [decide (0 = 0) || decide (0 < a0.length), decide ((0 + a0.length) * 40 ≤ 140737488355328)] (some a0)
noncomputable def M.topo_copyRouter_l1 (r2 : (List TPrefixList)) (p3 : Int) : Option (Int ⊕ Unit) :=
  bif decide (p3 < (r2.length : Int)) then none else (some (.inr ()))
noncomputable def M.topo_copyRouter_l2 (r6 : (List TRouteMap)) (p7 : Int) : Option (Int ⊕ Unit) :=
  bif decide (p7 < (r6.length : Int)) then none else (some (.inr ()))
noncomputable def M.topo_copyRouter_l3 (r10 : (List TACL)) (p11 : Int) : Option (Int ⊕ Unit) :=
  bif decide (p11 < (r10.length : Int)) then none else (some (.inr ()))
noncomputable def M.topo_copyRouter (a0 : TRouter) : Option TRouter :=
  (M.slices_Clone_api_Interface_api_Interface a0.fInterfaces).bind fun r1 => (M.slices_Clone_api_PrefixList_api_PrefixList a0.fLists).bind fun r2 => (loopM (M.topo_copyRouter_l1 r2) 0).bind fun y5 => (M.slices_Clone_api_RouteMap_api_RouteMap a0.fMaps).bind fun r6 => (loopM (M.topo_copyRouter_l2 r6) 0).bind fun y9 => (M.slices_Clone_api_ACL_api_ACL a0.fACLs).bind fun r10 => (loopM (M.topo_copyRouter_l3 r10) 0).bind fun y13 => (M.slices_Clone_api_Translation_api_Translation a0.fNAT).bind fun r14 => (M.slices_Clone_api_StaticRoute_api_StaticRoute a0.fStatics).bind fun r15 => (M.slices_Clone_api_AreaRange_api_AreaRange a0.fLS.fRanges).bind fun r16 => (M.slices_Clone_api_Redist_api_Redist a0.fLS.fRedist).bind fun r17 => (M.slices_Clone_api_Redist_api_Redist a0.fDV.fRedist).bind fun r18 => (M.slices_Clone_api_Neighbor_api_Neighbor a0.fPV.fNeighbors).bind fun r19 => (M.slices_Clone_api_Prefix_api_Prefix a0.fPV.fNetworks).bind fun r20 => (M.slices_Clone_api_Aggregate_api_Aggregate a0.fPV.fAggregates).bind fun r21 => (M.slices_Clone_api_Condition_api_Condition a0.fPV.fConditions).bind fun r22 => (M.slices_Clone_api_Redist_api_Redist a0.fPV.fRedist).bind fun r23 => some (⟨a0.fName, a0.fAS, r1, r2, r6, r10, r14, r15, (⟨a0.fLS.fOn, a0.fLS.fAdmin, r16, r17⟩ : TLinkState), (⟨a0.fDV.fOn, a0.fDV.fAdmin, a0.fDV.fIn, a0.fDV.fOut, r18⟩ : TDistanceVector), (⟨a0.fPV.fOn, a0.fPV.fExternal, a0.fPV.fInternal, r19, r20, r21, r22, r23⟩ : TPathVector)⟩ : TRouter)
noncomputable def M.topo_copyNetwork_l1 (r1 : (List TRouter)) (p2 : (List TRouter) × Int) : Option (((List TRouter) × Int) ⊕ (List TRouter)) :=
  bif decide (p2.2 < (r1.length : Int)) then ((M.topo_copyRouter (p2.1.getD (0 + p2.2.toNat) default)).bind fun r4 => gd [decide (0 ≤ p2.2), decide (p2.2 < (p2.1.length : Int)), decide (0 ≤ p2.2), decide (p2.2 < (p2.1.length : Int))] (some (.inl (p2.1.set (0 + p2.2.toNat) r4, wr .i64 (p2.2 + 1))))) else (some (.inr p2.1))
noncomputable def M.topo_copyNetwork (a0 : TNetwork) : Option TNetwork :=
  (M.slices_Clone_api_Router_api_Router a0.fRouters).bind fun r1 => (loopM (M.topo_copyNetwork_l1 r1) (r1, 0)).bind fun y5 => some (⟨y5⟩ : TNetwork)
noncomputable def M.slices_Clone_int_int (a0 : List Int) : Option (List Int) :=
  gd [decide (0 = 0) || decide (0 < a0.length), decide ((0 + a0.length) * 8 ≤ 140737488355328)] (some a0)
noncomputable def M.topo_Make_l1 (a1 : List Int) (p2 : Int) : Option (Int ⊕ Unit) :=
  bif decide (p2 < (a1.length : Int)) then none else (some (.inr ()))
noncomputable def M.topo_Make (a0 : TNetwork) (a1 : List Int) : Option (TView × Int) :=
  (M.topo_Build a0).bind fun r1 => bif r1.2 != 0 then none else (bif decide ((a1.length : Int) > 2) then none else ((loopM (M.topo_Make_l1 a1) 0).bind fun y4 => (M.topo_copyNetwork a0).bind fun r5 => (M.slices_Clone_int_int a1).bind fun r6 => some ((⟨r5, r1.1, r6⟩ : TView), 0)))
noncomputable def M.fib_recursive (a0 : TRoute) : Option Bool :=
  some ((a0.fProto == 2) && (a0.fNext != 0))
noncomputable def M.static_Resolves_k1 (p1 : Int × Int) (p3 : Int) : Option ((Int × Int) ⊕ Int) :=
  some (.inl (p3, wr .i64 (p1.2 + 1)))
noncomputable def M.static_Resolves_l1 (a0 : List TRoute) (a1 : TPrefix) (a2 : Int) (p1 : Int × Int) : Option ((Int × Int) ⊕ Int) :=
  bif decide (p1.2 < (a0.length : Int)) then (gd [decide (0 ≤ p1.2), decide (p1.2 < (a0.length : Int))] ((gc (!(((((a0.getD p1.2.toNat default).fPrefix).fAddr) == a1.fAddr) && (((((a0.getD p1.2.toNat default).fPrefix).fLen) == a1.fLen) && true))) (M.addr_Contains ((a0.getD p1.2.toNat default).fPrefix) a2)).bind fun r4 => bif (((((a0.getD p1.2.toNat default).fPrefix).fAddr) == a1.fAddr) && (((((a0.getD p1.2.toNat default).fPrefix).fLen) == a1.fLen) && true)) || (!r4) then (M.static_Resolves_k1 p1 p1.1) else (gd [guardB (!(decide (p1.1 < 0))) (decide (0 ≤ p1.1)), guardB (!(decide (p1.1 < 0))) (decide (p1.1 < (a0.length : Int)))] (bif (decide (p1.1 < 0)) || (decide ((((a0.getD p1.2.toNat default).fPrefix).fLen) > (((a0.getD p1.1.toNat default).fPrefix).fLen))) then (M.static_Resolves_k1 p1 p1.2) else (M.static_Resolves_k1 p1 p1.1))))) else (some (.inr p1.1))
noncomputable def M.static_Resolves (a0 : List TRoute) (a1 : TPrefix) (a2 : Int) : Option Int :=
  (loopM (M.static_Resolves_l1 a0 a1 a2) ((-1), 0)).bind fun y5 => some y5
noncomputable def M.fib_through_k1 (p2 : (List THop) × Int) (p4 : (List THop)) : Option (((List THop) × Int) ⊕ (List THop)) :=
  some (.inl (p4, wr .i64 (p2.2 + 1)))
noncomputable def M.fib_through_l1 (a1 : Int) (r1 : (List THop)) (p2 : (List THop) × Int) : Option (((List THop) × Int) ⊕ (List THop)) :=
  bif decide (p2.2 < (r1.length : Int)) then (gd [decide (0 ≤ p2.2), decide (p2.2 < (p2.1.length : Int))] (bif ((p2.1.getD (0 + p2.2.toNat) default).fAddr) == 0 then (gd [decide (0 ≤ p2.2), decide (p2.2 < (p2.1.length : Int))] (M.fib_through_k1 p2 (p2.1.set (0 + p2.2.toNat) (⟨(p2.1.getD (0 + p2.2.toNat) default).fIface, a1⟩ : THop)))) else (M.fib_through_k1 p2 p2.1))) else (some (.inr p2.1))
noncomputable def M.fib_through (a0 : List THop) (a1 : Int) : Option (List THop) :=
  (M.slices_Clone_api_Hop_api_Hop a0).bind fun r1 => (loopM (M.fib_through_l1 a1 r1) (r1, 0)).bind fun y5 => some y5
noncomputable def M.fib_resolve_l1 (a0 : List TRoute) (p1 : Int) : Option (Int ⊕ (Int ⊕ (List THop))) :=
  (gc (!((a0.getD p1.toNat default).fDiscard)) (M.fib_recursive (a0.getD p1.toNat default))).bind fun r3 => gd [decide (0 ≤ p1), decide (p1 < (a0.length : Int)), guardB (!((a0.getD p1.toNat default).fDiscard)) (decide (0 ≤ p1)), guardB (!((a0.getD p1.toNat default).fDiscard)) (decide (p1 < (a0.length : Int)))] (bif (!((a0.getD p1.toNat default).fDiscard)) && r3 then (gd [decide (0 ≤ p1), decide (p1 < ((List.replicate ((a0.length : Int).toNat) false).length : Int))] (gd [decide (0 ≤ p1), decide (p1 < (a0.length : Int))] ((M.static_Resolves a0 ((a0.getD p1.toNat default).fPrefix) ((a0.getD p1.toNat default).fNext)).bind fun r4 => gd [decide (0 ≤ p1), decide (p1 < (a0.length : Int))] (gd [guardB (!((decide (r4 < 0)) || (decide (r4 ≥ (a0.length : Int))))) (decide (0 ≤ r4)), guardB (!((decide (r4 < 0)) || (decide (r4 ≥ (a0.length : Int))))) (decide (r4 < ((((List.replicate ((a0.length : Int).toNat) false).set (0 + p1.toNat) true).length : Nat) : Int)))] (bif ((decide (r4 < 0)) || (decide (r4 ≥ (a0.length : Int)))) || (((List.replicate ((a0.length : Int).toNat) false).set (0 + p1.toNat) true).getD (0 + r4.toNat) default) then none else ((gc (!((a0.getD r4.toNat default).fDiscard)) (M.fib_recursive (a0.getD r4.toNat default))).bind fun r5 => gd [decide (0 ≤ r4), decide (r4 < (a0.length : Int)), guardB (!((a0.getD r4.toNat default).fDiscard)) (decide (0 ≤ r4)), guardB (!((a0.getD r4.toNat default).fDiscard)) (decide (r4 < (a0.length : Int)))] (bif (!((a0.getD r4.toNat default).fDiscard)) && (!r5) then ((M.fib_through ((a0.getD r4.toNat default).fHops) ((a0.getD p1.toNat default).fNext)).bind fun r6 => gd [decide (0 ≤ r4), decide (r4 < (a0.length : Int))] (some (.inr (.inr r6)))) else none))))))) else (some (.inr (.inl p1))))
noncomputable def M.fib_resolve (a0 : List TRoute) (a1 : Int) : Option (List THop) :=
  gd [decide (0 ≤ (a0.length : Int)), decide ((a0.length : Int) ≤ (a0.length : Int)), decide ((a0.length : Int).toNat * 1 ≤ 140737488355328), decide ((a0.length : Int).toNat ≤ 140737488355328)] ((loopM (M.fib_resolve_l1 a0) a1).bind fun y7 => Sum.elim (fun g8 => gd [decide (0 ≤ g8), decide (g8 < (a0.length : Int))] (bif (a0.getD g8.toNat default).fDiscard then none else (gd [decide (0 ≤ g8), decide (g8 < (a0.length : Int))] (some ((a0.getD g8.toNat default).fHops))))) (fun y9 => some y9) y7)
noncomputable def M.slices_Index_api_End_api_End_l1 (a0 : List TEnd) (a1 : TEnd) (p1 : Int) : Option (Int ⊕ (Unit ⊕ Int)) :=
  bif decide (p1 < (a0.length : Int)) then (gd [decide (0 ≤ p1), decide (p1 < (a0.length : Int))] (bif ((a1.fRouter == ((a0.getD p1.toNat default).fRouter)) && ((a1.fIface == ((a0.getD p1.toNat default).fIface)) && true)) then (some (.inr (.inr p1))) else none)) else (some (.inr (.inl ())))
noncomputable def M.slices_Index_api_End_api_End (a0 : List TEnd) (a1 : TEnd) : Option Int :=
  (loopM (M.slices_Index_api_End_api_End_l1 a0 a1) 0).bind fun y3 => Sum.elim (fun _ => none) (fun y5 => some y5) y3
noncomputable def M.slices_Contains_api_End_api_End (a0 : List TEnd) (a1 : TEnd) : Option Bool :=
  (M.slices_Index_api_End_api_End a0 a1).bind fun r1 => some (decide (r1 ≥ 0))
noncomputable def M.topo_Domain_l1 (a0 : TView) (a1 : Int) (a2 : Int) (p1 : Int) : Option (Int ⊕ (Unit ⊕ Int)) :=
  bif decide (p1 < (a0.fTopo.fDomains.length : Int)) then (gd [decide (0 ≤ p1), decide (p1 < (a0.fTopo.fDomains.length : Int))] ((M.slices_Contains_api_End_api_End ((a0.fTopo.fDomains.getD p1.toNat default).fEnds) (⟨a1, a2⟩ : TEnd)).bind fun r3 => bif r3 then (some (.inr (.inr p1))) else none)) else (some (.inr (.inl ())))
noncomputable def M.topo_Domain (a0 : TView) (a1 : Int) (a2 : Int) : Option Int :=
  (loopM (M.topo_Domain_l1 a0 a1 a2) 0).bind fun y4 => Sum.elim (fun _ => none) (fun y6 => some y6) y4
noncomputable def M.slices_Index_int_int_l1 (a0 : List Int) (p1 : Int) : Option (Int ⊕ Unit) :=
  bif decide (p1 < (a0.length : Int)) then none else (some (.inr ()))
noncomputable def M.slices_Index_int_int (a0 : List Int) (_a1 : Int) : Option Int :=
  (loopM (M.slices_Index_int_int_l1 a0) 0).bind fun y3 => some (-1)
noncomputable def M.topo_Link (a0 : TView) (a1 : Int) (a2 : Int) : Option Int :=
  (M.topo_Domain a0 a1 a2).bind fun r1 => bif decide (r1 < 0) then none else ((M.slices_Index_int_int a0.fTopo.fLinks r1).bind fun r2 => some r2)
noncomputable def M.slices_Contains_int_int (_a0 : List Int) (_a1 : Int) : Option Bool :=
  none
noncomputable def M.topo_Up (a0 : TView) (a1 : Int) (a2 : Int) : Option Bool :=
  (M.topo_Domain a0 a1 a2).bind fun r1 => bif decide (r1 < 0) then none else ((M.topo_Link a0 a1 a2).bind fun r2 => (gc (!(decide (r2 < 0))) (M.slices_Contains_int_int a0.fDown r2)).bind fun r3 => some ((decide (r2 < 0)) || (!r3)))
noncomputable def M.fib_Resolve_1 (a0 : THop) (a1 : THop) : Option Int :=
  (M.cmp_Compare_int a0.fIface a1.fIface).bind fun r1 => (M.cmp_Compare_uint32 a0.fAddr a1.fAddr).bind fun r2 => (M.cmp_Or_int ([r1, r2] : List Int)).bind fun r3 => some r3
noncomputable def M.slices_SortFunc_api_Hop_api_Hop__fib_Resolve_1 (a0 : List THop) : Option (List THop) :=
  sortM M.fib_Resolve_1 a0
noncomputable def M.slices_Compact_api_Hop_api_Hop (a0 : List THop) : Option ((List THop) × Nat) :=
  bif decide ((a0.length : Int) < 2) then (some (a0, a0.length)) else none
noncomputable def M.fib_Resolve_k1 (p2 : (List THop) × Int) (p4 : (List THop)) : Option (((List THop) × Int) ⊕ (List THop)) :=
  some (.inl (p4, wr .i64 (p2.2 + 1)))
noncomputable def M.fib_Resolve_l1 (a0 : TView) (a2 : Int) (r1 : (List THop)) (p2 : (List THop) × Int) : Option (((List THop) × Int) ⊕ (List THop)) :=
  bif decide (p2.2 < (r1.length : Int)) then (gd [decide (0 ≤ p2.2), decide (p2.2 < (r1.length : Int))] ((M.topo_Up a0 a2 ((r1.getD p2.2.toNat default).fIface)).bind fun r5 => bif r5 then (gd [decide ((p2.1.length + 1) * 16 ≤ 140737488355328)] (M.fib_Resolve_k1 p2 (p2.1 ++ [r1.getD p2.2.toNat default]))) else (M.fib_Resolve_k1 p2 p2.1))) else (some (.inr p2.1))
noncomputable def M.fib_Resolve (a0 : TView) (a1 : List TRoute) (a2 : Int) (a3 : Int) : Option (List THop) :=
  bif (decide (a3 < 0)) || (decide (a3 ≥ (a1.length : Int))) then none else ((M.fib_resolve a1 a3).bind fun r1 => (loopM (M.fib_Resolve_l1 a0 a2 r1) (([] : List THop), 0)).bind fun y6 => (M.slices_SortFunc_api_Hop_api_Hop__fib_Resolve_1 y6).bind fun r7 => gd [decide (r7.length = y6.length)] ((M.slices_Compact_api_Hop_api_Hop r7).bind fun r8 => gd [decide (r8.1.length = r7.length), decide (r8.2 ≤ r8.1.length)] (gd [decide (r8.2 ≤ r8.1.length)] (some (r8.1.take r8.2)))))
noncomputable def M.fib_Table_l1 (a0 : TView) (a1 : List TRoute) (a2 : Int) (p1 : (List TForward) × Int) : Option (((List TForward) × Int) ⊕ (List TForward)) :=
  bif decide (p1.2 < (a1.length : Int)) then (gd [decide (0 ≤ p1.2), decide (p1.2 < (a1.length : Int))] ((M.fib_Resolve a0 a1 a2 p1.2).bind fun r3 => gd [decide ((p1.1.length + 1) * 48 ≤ 140737488355328)] (some (.inl (p1.1 ++ [(⟨(a1.getD p1.2.toNat default).fPrefix, r3, (a1.getD p1.2.toNat default).fDiscard⟩ : TForward)], wr .i64 (p1.2 + 1)))))) else (some (.inr p1.1))
noncomputable def M.fib_Table (a0 : TView) (a1 : List TRoute) (a2 : Int) : Option (List TForward) :=
  (loopM (M.fib_Table_l1 a0 a1 a2) (([] : List TForward), 0)).bind fun y4 => some y4
noncomputable def M.fib_Lookup_k1 (p1 : Int × Int) (p3 : Int) : Option ((Int × Int) ⊕ Int) :=
  some (.inl (p3, wr .i64 (p1.2 + 1)))
noncomputable def M.fib_Lookup_l1 (a0 : List TForward) (a1 : Int) (p1 : Int × Int) : Option ((Int × Int) ⊕ Int) :=
  bif decide (p1.2 < (a0.length : Int)) then (gd [decide (0 ≤ p1.2), decide (p1.2 < (a0.length : Int))] ((M.addr_Contains ((a0.getD p1.2.toNat default).fPrefix) a1).bind fun r4 => gd [guardB (r4 && !(decide (p1.1 < 0))) (decide (0 ≤ p1.1)), guardB (r4 && !(decide (p1.1 < 0))) (decide (p1.1 < (a0.length : Int)))] (bif r4 && ((decide (p1.1 < 0)) || (decide ((((a0.getD p1.2.toNat default).fPrefix).fLen) > (((a0.getD p1.1.toNat default).fPrefix).fLen)))) then (M.fib_Lookup_k1 p1 p1.2) else (M.fib_Lookup_k1 p1 p1.1)))) else (some (.inr p1.1))
noncomputable def M.fib_Lookup (a0 : List TForward) (a1 : Int) : Option Int :=
  (loopM (M.fib_Lookup_l1 a0 a1) ((-1), 0)).bind fun y5 => some y5
noncomputable def M.law24_sane  : Option Bool :=
  (M.topo_Make (⟨([(⟨(⟨#[97]⟩ : ByteArray), 0, ([(⟨(⟨#[101, 48]⟩ : ByteArray), 167772161, 24, 0, false, false, 0, 0, false, (⟨#[]⟩ : ByteArray), (⟨#[]⟩ : ByteArray), 0⟩ : TInterface)] : List TInterface), ([] : List TPrefixList), ([] : List TRouteMap), ([] : List TACL), ([] : List TTranslation), ([(⟨(⟨0, 0⟩ : TPrefix), 167772169, (⟨#[]⟩ : ByteArray), false, 1, 0⟩ : TStaticRoute)] : List TStaticRoute), (⟨false, 0, ([] : List TAreaRange), ([] : List TRedist)⟩ : TLinkState), (⟨false, 0, (⟨#[]⟩ : ByteArray), (⟨#[]⟩ : ByteArray), ([] : List TRedist)⟩ : TDistanceVector), (⟨false, 0, 0, ([] : List TNeighbor), ([] : List TPrefix), ([] : List TAggregate), ([] : List TCondition), ([] : List TRedist)⟩ : TPathVector)⟩ : TRouter)] : List TRouter)⟩ : TNetwork) ([] : List Int)).bind fun r1 => bif r1.2 != 0 then (some false) else ((M.fib_Table r1.1 ([(⟨(⟨0, 0⟩ : TPrefix), 2, 0, 1, 0, 0, 0, 0, ([] : List Int), 0, 167772169, ([] : List THop), false⟩ : TRoute), (⟨(⟨167772160, 24⟩ : TPrefix), 1, 0, 0, 0, 0, 0, 0, ([] : List Int), 0, 0, ([(⟨0, 0⟩ : THop)] : List THop), false⟩ : TRoute)] : List TRoute) 0).bind fun r2 => (gc ((((r2.length : Int) == 2) && ((((r2.getD (0 : Int).toNat default).fHops).length : Int) == 1)) && ((((((r2.getD (0 : Int).toNat default).fHops).getD (0 : Int).toNat default).fIface) == 0) && ((((((r2.getD (0 : Int).toNat default).fHops).getD (0 : Int).toNat default).fAddr) == 167772169) && true))) (M.fib_Lookup r2 5)).bind fun r3 => (gc (((((r2.length : Int) == 2) && ((((r2.getD (0 : Int).toNat default).fHops).length : Int) == 1)) && ((((((r2.getD (0 : Int).toNat default).fHops).getD (0 : Int).toNat default).fIface) == 0) && ((((((r2.getD (0 : Int).toNat default).fHops).getD (0 : Int).toNat default).fAddr) == 167772169) && true))) && (r3 == 0)) (M.fib_Lookup r2 167772165)).bind fun r4 => gd [guardB ((r2.length : Int) == 2) (decide (0 ≤ 0)), guardB ((r2.length : Int) == 2) (decide (0 < (r2.length : Int))), guardB (((r2.length : Int) == 2) && ((((r2.getD (0 : Int).toNat default).fHops).length : Int) == 1)) (decide (0 ≤ 0)), guardB (((r2.length : Int) == 2) && ((((r2.getD (0 : Int).toNat default).fHops).length : Int) == 1)) (decide (0 < (r2.length : Int))), guardB (((r2.length : Int) == 2) && ((((r2.getD (0 : Int).toNat default).fHops).length : Int) == 1)) (decide (0 ≤ 0)), guardB (((r2.length : Int) == 2) && ((((r2.getD (0 : Int).toNat default).fHops).length : Int) == 1)) (decide (0 < (((r2.getD (0 : Int).toNat default).fHops).length : Int)))] (some ((((((r2.length : Int) == 2) && ((((r2.getD (0 : Int).toNat default).fHops).length : Int) == 1)) && ((((((r2.getD (0 : Int).toNat default).fHops).getD (0 : Int).toNat default).fIface) == 0) && ((((((r2.getD (0 : Int).toNat default).fHops).getD (0 : Int).toNat default).fAddr) == 167772169) && true))) && (r3 == 0)) && (r4 == 1))))
noncomputable def M.law24_FibCompresses (a0 : List TForward) : Option Bool :=
  (M.law24_right a0).bind fun r1 => (gc (!(!r1)) (M.fib_Compress a0)).bind fun r2 => (gc (!(!r1)) (M.ref24_Compress a0)).bind fun r3 => (gc (!(!r1)) (M.ref24_SameForwards r2 r3)).bind fun r4 => (gc ((!(!r1)) && r4) M.law24_sane).bind fun r5 => some ((!r1) || (r4 && r5))
end Nv
