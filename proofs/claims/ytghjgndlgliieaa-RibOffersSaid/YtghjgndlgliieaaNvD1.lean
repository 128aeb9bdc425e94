/- The mirrors: what each function of the given program computes, in plain terms. -/
import Derived.Test.YtghjgndlgliieaaNvLibB
set_option maxRecDepth 100000
namespace Nv
open Go
structure TInterface where
  fName : ByteArray
  fAddr : Int
  fLen : Int
  fVLAN : Int
  fDown : Bool
  fLS : Bool
  fArea : Int
  fCost : Int
  fDV : Bool
  fIn : ByteArray
  fOut : ByteArray
  fSide : Int
  deriving Inhabited
def c_TInterface (x : TInterface) : List D := [.str x.fName, .int .u32 x.fAddr, .int .i64 x.fLen, .int .i64 x.fVLAN, .bool x.fDown, .bool x.fLS, .int .i64 x.fArea, .int .i64 x.fCost, .bool x.fDV, .str x.fIn, .str x.fOut, .int .i64 x.fSide]
structure TPrefix where
  fAddr : Int
  fLen : Int
  deriving Inhabited
def c_TPrefix (x : TPrefix) : List D := [.int .u32 x.fAddr, .int .i64 x.fLen]
structure TPrefixRule where
  fPermit : Bool
  fPrefix : TPrefix
  fMin : Int
  fMax : Int
  deriving Inhabited
def c_TPrefixRule (x : TPrefixRule) : List D := [.bool x.fPermit, .int .u32 x.fPrefix.fAddr, .int .i64 x.fPrefix.fLen, .int .i64 x.fMin, .int .i64 x.fMax]
structure TPrefixList where
  fName : ByteArray
  fRules : List TPrefixRule
  deriving Inhabited
def c_TPrefixList (x : TPrefixList) : List D := [.str x.fName, sL 5 c_TPrefixRule x.fRules]
structure TClause where
  fPermit : Bool
  fList : ByteArray
  fTag : Int
  fSetMetric : Int
  fSetTag : Int
  fSetPref : Int
  fPrepend : Int
  deriving Inhabited
def c_TClause (x : TClause) : List D := [.bool x.fPermit, .str x.fList, .int .i64 x.fTag, .int .i64 x.fSetMetric, .int .i64 x.fSetTag, .int .i64 x.fSetPref, .int .i64 x.fPrepend]
structure TRouteMap where
  fName : ByteArray
  fClauses : List TClause
  deriving Inhabited
def c_TRouteMap (x : TRouteMap) : List D := [.str x.fName, sL 7 c_TClause x.fClauses]
structure TWildcard where
  fAddr : Int
  fMask : Int
  deriving Inhabited
def c_TWildcard (x : TWildcard) : List D := [.int .u32 x.fAddr, .int .u32 x.fMask]
structure TPortRange where
  fLo : Int
  fHi : Int
  deriving Inhabited
def c_TPortRange (x : TPortRange) : List D := [.int .i64 x.fLo, .int .i64 x.fHi]
structure TRule where
  fPermit : Bool
  fProto : Int
  fSrc : TWildcard
  fDst : TWildcard
  fSrcPorts : TPortRange
  fDstPorts : TPortRange
  deriving Inhabited
def c_TRule (x : TRule) : List D := [.bool x.fPermit, .int .i64 x.fProto, .int .u32 x.fSrc.fAddr, .int .u32 x.fSrc.fMask, .int .u32 x.fDst.fAddr, .int .u32 x.fDst.fMask, .int .i64 x.fSrcPorts.fLo, .int .i64 x.fSrcPorts.fHi, .int .i64 x.fDstPorts.fLo, .int .i64 x.fDstPorts.fHi]
structure TACL where
  fName : ByteArray
  fRules : List TRule
  deriving Inhabited
def c_TACL (x : TACL) : List D := [.str x.fName, sL 10 c_TRule x.fRules]
structure TTranslation where
  fKind : Int
  fInside : Int
  fOutside : Int
  fProto : Int
  fInsidePort : Int
  fOutsidePort : Int
  fList : ByteArray
  fLo : Int
  fHi : Int
  deriving Inhabited
def c_TTranslation (x : TTranslation) : List D := [.int .i64 x.fKind, .int .u32 x.fInside, .int .u32 x.fOutside, .int .i64 x.fProto, .int .i64 x.fInsidePort, .int .i64 x.fOutsidePort, .str x.fList, .int .u32 x.fLo, .int .u32 x.fHi]
structure TStaticRoute where
  fPrefix : TPrefix
  fNext : Int
  fIface : ByteArray
  fDiscard : Bool
  fAdmin : Int
  fTag : Int
  deriving Inhabited
def c_TStaticRoute (x : TStaticRoute) : List D := [.int .u32 x.fPrefix.fAddr, .int .i64 x.fPrefix.fLen, .int .u32 x.fNext, .str x.fIface, .bool x.fDiscard, .int .i64 x.fAdmin, .int .i64 x.fTag]
structure TAreaRange where
  fArea : Int
  fPrefix : TPrefix
  deriving Inhabited
def c_TAreaRange (x : TAreaRange) : List D := [.int .i64 x.fArea, .int .u32 x.fPrefix.fAddr, .int .i64 x.fPrefix.fLen]
structure TRedist where
  fFrom : Int
  fMetric : Int
  fTag : Int
  fMap : ByteArray
  fType : Int
  deriving Inhabited
def c_TRedist (x : TRedist) : List D := [.int .i64 x.fFrom, .int .i64 x.fMetric, .int .i64 x.fTag, .str x.fMap, .int .i64 x.fType]
structure TLinkState where
  fOn : Bool
  fAdmin : Int
  fRanges : List TAreaRange
  fRedist : List TRedist
  deriving Inhabited
def c_TLinkState (x : TLinkState) : List D := [.bool x.fOn, .int .i64 x.fAdmin, sL 3 c_TAreaRange x.fRanges, sL 5 c_TRedist x.fRedist]
structure TDistanceVector where
  fOn : Bool
  fAdmin : Int
  fIn : ByteArray
  fOut : ByteArray
  fRedist : List TRedist
  deriving Inhabited
def c_TDistanceVector (x : TDistanceVector) : List D := [.bool x.fOn, .int .i64 x.fAdmin, .str x.fIn, .str x.fOut, sL 5 c_TRedist x.fRedist]
structure TNeighbor where
  fAddr : Int
  fAS : Int
  fIn : ByteArray
  fOut : ByteArray
  deriving Inhabited
def c_TNeighbor (x : TNeighbor) : List D := [.int .u32 x.fAddr, .int .i64 x.fAS, .str x.fIn, .str x.fOut]
structure TAggregate where
  fPrefix : TPrefix
  fOnly : Bool
  deriving Inhabited
def c_TAggregate (x : TAggregate) : List D := [.int .u32 x.fPrefix.fAddr, .int .i64 x.fPrefix.fLen, .bool x.fOnly]
structure TCondition where
  fPrefix : TPrefix
  fIf : TPrefix
  fAbsent : Bool
  deriving Inhabited
def c_TCondition (x : TCondition) : List D := [.int .u32 x.fPrefix.fAddr, .int .i64 x.fPrefix.fLen, .int .u32 x.fIf.fAddr, .int .i64 x.fIf.fLen, .bool x.fAbsent]
structure TPathVector where
  fOn : Bool
  fExternal : Int
  fInternal : Int
  fNeighbors : List TNeighbor
  fNetworks : List TPrefix
  fAggregates : List TAggregate
  fConditions : List TCondition
  fRedist : List TRedist
  deriving Inhabited
def c_TPathVector (x : TPathVector) : List D := [.bool x.fOn, .int .i64 x.fExternal, .int .i64 x.fInternal, sL 4 c_TNeighbor x.fNeighbors, sL 2 c_TPrefix x.fNetworks, sL 3 c_TAggregate x.fAggregates, sL 5 c_TCondition x.fConditions, sL 5 c_TRedist x.fRedist]
structure TRouter where
  fName : ByteArray
  fAS : Int
  fInterfaces : List TInterface
  fLists : List TPrefixList
  fMaps : List TRouteMap
  fACLs : List TACL
  fNAT : List TTranslation
  fStatics : List TStaticRoute
  fLS : TLinkState
  fDV : TDistanceVector
  fPV : TPathVector
  deriving Inhabited
def c_TRouter (x : TRouter) : List D := [.str x.fName, .int .i64 x.fAS, sL 12 c_TInterface x.fInterfaces, sL 2 c_TPrefixList x.fLists, sL 2 c_TRouteMap x.fMaps, sL 2 c_TACL x.fACLs, sL 9 c_TTranslation x.fNAT, sL 7 c_TStaticRoute x.fStatics, .bool x.fLS.fOn, .int .i64 x.fLS.fAdmin, sL 3 c_TAreaRange x.fLS.fRanges, sL 5 c_TRedist x.fLS.fRedist, .bool x.fDV.fOn, .int .i64 x.fDV.fAdmin, .str x.fDV.fIn, .str x.fDV.fOut, sL 5 c_TRedist x.fDV.fRedist, .bool x.fPV.fOn, .int .i64 x.fPV.fExternal, .int .i64 x.fPV.fInternal, sL 4 c_TNeighbor x.fPV.fNeighbors, sL 2 c_TPrefix x.fPV.fNetworks, sL 3 c_TAggregate x.fPV.fAggregates, sL 5 c_TCondition x.fPV.fConditions, sL 5 c_TRedist x.fPV.fRedist]
structure THop where
  fIface : Int
  fAddr : Int
  deriving Inhabited
def c_THop (x : THop) : List D := [.int .i64 x.fIface, .int .u32 x.fAddr]
structure TRoute where
  fPrefix : TPrefix
  fProto : Int
  fClass : Int
  fAdmin : Int
  fMetric : Int
  fInner : Int
  fTag : Int
  fPref : Int
  fPath : List Int
  fFrom : Int
  fNext : Int
  fHops : List THop
  fDiscard : Bool
  deriving Inhabited
def c_TRoute (x : TRoute) : List D := [.int .u32 x.fPrefix.fAddr, .int .i64 x.fPrefix.fLen, .int .i64 x.fProto, .int .i64 x.fClass, .int .i64 x.fAdmin, .int .i64 x.fMetric, .int .i64 x.fInner, .int .i64 x.fTag, .int .i64 x.fPref, sL 1 (ci .i64) x.fPath, .int .u32 x.fFrom, .int .u32 x.fNext, sL 2 c_THop x.fHops, .bool x.fDiscard]
noncomputable def M.law5_Small_l1 (a0 : TRouter) (p1 : Int) : Option (Int ⊕ (Unit ⊕ Bool)) :=
  bif decide (p1 < (a0.fLists.length : Int)) then (gd [decide (0 ≤ p1), decide (p1 < (a0.fLists.length : Int))] (bif decide ((((a0.fLists.getD p1.toNat default).fRules).length : Int) > 20) then (some (.inr (.inr false))) else (some (.inl (wr .i64 (p1 + 1)))))) else (some (.inr (.inl ())))
noncomputable def M.law5_Small_l2 (a0 : TRouter) (p6 : Int) : Option (Int ⊕ (Unit ⊕ Bool)) :=
  bif decide (p6 < (a0.fMaps.length : Int)) then (gd [decide (0 ≤ p6), decide (p6 < (a0.fMaps.length : Int))] (bif decide ((((a0.fMaps.getD p6.toNat default).fClauses).length : Int) > 12) then (some (.inr (.inr false))) else (some (.inl (wr .i64 (p6 + 1)))))) else (some (.inr (.inl ())))
noncomputable def M.law5_Small_l3 (a0 : TRouter) (p11 : Int) : Option (Int ⊕ (Unit ⊕ Bool)) :=
  bif decide (p11 < (a0.fACLs.length : Int)) then (gd [decide (0 ≤ p11), decide (p11 < (a0.fACLs.length : Int))] (bif decide ((((a0.fACLs.getD p11.toNat default).fRules).length : Int) > 20) then (some (.inr (.inr false))) else (some (.inl (wr .i64 (p11 + 1)))))) else (some (.inr (.inl ())))
noncomputable def M.law5_Small (a0 : TRouter) : Option Bool :=
  bif (((((((((((((decide ((a0.fInterfaces.length : Int) > 12)) || (decide ((a0.fLists.length : Int) > 12))) || (decide ((a0.fMaps.length : Int) > 12))) || (decide ((a0.fACLs.length : Int) > 12))) || (decide ((a0.fNAT.length : Int) > 12))) || (decide ((a0.fStatics.length : Int) > 20))) || (decide ((a0.fLS.fRanges.length : Int) > 8))) || (decide ((a0.fLS.fRedist.length : Int) > 8))) || (decide ((a0.fDV.fRedist.length : Int) > 8))) || (decide ((a0.fPV.fRedist.length : Int) > 8))) || (decide ((a0.fPV.fNeighbors.length : Int) > 12))) || (decide ((a0.fPV.fNetworks.length : Int) > 12))) || (decide ((a0.fPV.fAggregates.length : Int) > 12))) || (decide ((a0.fPV.fConditions.length : Int) > 12)) then (some false) else ((loopM (M.law5_Small_l1 a0) 0).bind fun y3 => Sum.elim (fun _ => (loopM (M.law5_Small_l2 a0) 0).bind fun y8 => Sum.elim (fun _ => (loopM (M.law5_Small_l3 a0) 0).bind fun y13 => Sum.elim (fun _ => some true) (fun y15 => some y15) y13) (fun y10 => some y10) y8) (fun y5 => some y5) y3)
noncomputable def M.ref4_letter (a0 : Int) : Option Bool :=
  some (((decide (a0 ≥ 97)) && (decide (a0 ≤ 122))) || ((decide (a0 ≥ 65)) && (decide (a0 ≤ 90))))
noncomputable def M.ref4_Name_l1 (a0 : ByteArray) (p2 : Int) : Option (Int ⊕ (Unit ⊕ Bool)) :=
  bif decide (p2 < (a0.size : Int)) then (gd [decide (0 ≤ p2), decide (p2 < (a0.size : Int))] ((M.ref4_letter (byteAt a0 p2)).bind fun r4 => bif (((((!r4) && (!((decide ((byteAt a0 p2) ≥ 48)) && (decide ((byteAt a0 p2) ≤ 57))))) && ((byteAt a0 p2) != 45)) && ((byteAt a0 p2) != 95)) && ((byteAt a0 p2) != 47)) && ((byteAt a0 p2) != 46) then (some (.inr (.inr false))) else (some (.inl (wr .i64 (p2 + 1)))))) else (some (.inr (.inl ())))
noncomputable def M.ref4_Name (a0 : ByteArray) : Option Bool :=
  (gc (!((decide ((a0.size : Int) < 1)) || (decide ((a0.size : Int) > 15)))) (M.ref4_letter (byteAt a0 0))).bind fun r1 => gd [guardB (!((decide ((a0.size : Int) < 1)) || (decide ((a0.size : Int) > 15)))) (decide (0 ≤ 0)), guardB (!((decide ((a0.size : Int) < 1)) || (decide ((a0.size : Int) > 15)))) (decide (0 < (a0.size : Int)))] (bif ((decide ((a0.size : Int) < 1)) || (decide ((a0.size : Int) > 15))) || (!r1) then (some false) else ((loopM (M.ref4_Name_l1 a0) 1).bind fun y5 => Sum.elim (fun _ => some true) (fun y7 => some y7) y5))
noncomputable def M.ref8_within (a0 : Int) (a1 : Int) (a2 : Int) : Option Bool :=
  some ((decide (a1 ≤ a0)) && (decide (a0 ≤ a2)))
noncomputable def M.ref4_Mask_k1 (p1 : Int × Int) (p3 : Int) : Option ((Int × Int) ⊕ Int) :=
  some (.inl (p3, wr .i64 (p1.2 + 1)))
noncomputable def M.ref4_Mask_l1 (a0 : Int) (p1 : Int × Int) : Option ((Int × Int) ⊕ Int) :=
  bif decide (p1.2 < 32) then (bif decide (p1.2 < a0) then (gd [decide (0 ≤ (wr .u64 (wr .i64 (31 - p1.2))))] (M.ref4_Mask_k1 p1 (bitD .or .u32 p1.1 (wr .u32 (1 * 2 ^ min (wr .u64 (wr .i64 (31 - p1.2))).toNat 32))))) else (M.ref4_Mask_k1 p1 p1.1)) else (some (.inr p1.1))
noncomputable def M.ref4_Mask (a0 : Int) : Option Int :=
  (loopM (M.ref4_Mask_l1 a0) (0, 0)).bind fun y4 => some y4
noncomputable def M.ref4_Network (a0 : Int) (a1 : Int) : Option TPrefix :=
  (M.ref4_Mask (if 0 > (if 32 < a1 then 32 else a1) then 0 else (if 32 < a1 then 32 else a1))).bind fun r1 => some (⟨bitD .and .u32 a0 r1, if 0 > (if 32 < a1 then 32 else a1) then 0 else (if 32 < a1 then 32 else a1)⟩ : TPrefix)
noncomputable def M.ref4_Contains (a0 : TPrefix) (a1 : Int) : Option Bool :=
  (M.ref4_Mask a0.fLen).bind fun r1 => some ((bitD .and .u32 a1 r1) == a0.fAddr)
noncomputable def M.ref4_Covers (a0 : TPrefix) (a1 : TPrefix) : Option Bool :=
  (gc (decide (a0.fLen ≤ a1.fLen)) (M.ref4_Contains a0 a1.fAddr)).bind fun r1 => some ((decide (a0.fLen ≤ a1.fLen)) && r1)
noncomputable def M.ref4_Overlaps (a0 : TPrefix) (a1 : TPrefix) : Option Bool :=
  (M.ref4_Covers a0 a1).bind fun r1 => (gc (!r1) (M.ref4_Covers a1 a0)).bind fun r2 => some (r1 || r2)
noncomputable def M.ref8_interfaces_l2 (a0 : List TInterface) (p1 : Int) (p4 : Int) : Option (Int ⊕ (Unit ⊕ Int)) :=
  bif decide (p4 < p1) then (gd [decide (0 ≤ p4), decide (p4 < (a0.length : Int))] (bif strEq ((a0.getD p4.toNat default).fName) ((a0.getD p1.toNat default).fName) then (some (.inr (.inr 4))) else (some (.inl (wr .i64 (p4 + 1)))))) else (some (.inr (.inl ())))
noncomputable def M.ref8_interfaces_l3 (a0 : List TInterface) (p1 : Int) (p14 : Int) : Option (Int ⊕ (Unit ⊕ Int)) :=
  bif decide (p14 < p1) then ((gc ((((a0.getD p1.toNat default).fLen) != 0) && (((a0.getD p14.toNat default).fLen) != 0)) (M.ref4_Network ((a0.getD p1.toNat default).fAddr) ((a0.getD p1.toNat default).fLen))).bind fun r16 => (gc ((((a0.getD p1.toNat default).fLen) != 0) && (((a0.getD p14.toNat default).fLen) != 0)) (M.ref4_Network ((a0.getD p14.toNat default).fAddr) ((a0.getD p14.toNat default).fLen))).bind fun r17 => (gc ((((a0.getD p1.toNat default).fLen) != 0) && (((a0.getD p14.toNat default).fLen) != 0)) (M.ref4_Overlaps r16 r17)).bind fun r18 => gd [guardB (((a0.getD p1.toNat default).fLen) != 0) (decide (0 ≤ p14)), guardB (((a0.getD p1.toNat default).fLen) != 0) (decide (p14 < (a0.length : Int))), guardB ((((a0.getD p1.toNat default).fLen) != 0) && (((a0.getD p14.toNat default).fLen) != 0)) (decide (0 ≤ p14)), guardB ((((a0.getD p1.toNat default).fLen) != 0) && (((a0.getD p14.toNat default).fLen) != 0)) (decide (p14 < (a0.length : Int))), guardB ((((a0.getD p1.toNat default).fLen) != 0) && (((a0.getD p14.toNat default).fLen) != 0)) (decide (0 ≤ p14)), guardB ((((a0.getD p1.toNat default).fLen) != 0) && (((a0.getD p14.toNat default).fLen) != 0)) (decide (p14 < (a0.length : Int)))] (bif ((((a0.getD p1.toNat default).fLen) != 0) && (((a0.getD p14.toNat default).fLen) != 0)) && r18 then (some (.inr (.inr 6))) else (some (.inl (wr .i64 (p14 + 1)))))) else (some (.inr (.inl ())))
noncomputable def M.ref8_interfaces_l1 (a0 : List TInterface) (p1 : Int) : Option (Int ⊕ (Unit ⊕ Int)) :=
  bif decide (p1 < (a0.length : Int)) then (gd [decide (0 ≤ p1), decide (p1 < (a0.length : Int))] ((M.ref4_Name ((a0.getD p1.toNat default).fName)).bind fun r3 => bif !r3 then (some (.inr (.inr 3))) else ((loopM (M.ref8_interfaces_l2 a0 p1) 0).bind fun y6 => Sum.elim (fun _ => (M.ref8_within ((a0.getD p1.toNat default).fLen) 0 32).bind fun r9 => (gc (!(!r9)) (M.ref8_within ((a0.getD p1.toNat default).fVLAN) 0 4094)).bind fun r10 => (gc (!((!r9) || (!r10))) (M.ref8_within ((a0.getD p1.toNat default).fSide) 0 2)).bind fun r11 => bif ((!r9) || (!r10)) || (!r11) then (some (.inr (.inr 1))) else (bif ((((a0.getD p1.toNat default).fLen) == 0) && (((((((((a0.getD p1.toNat default).fAddr) != 0) || (((a0.getD p1.toNat default).fVLAN) != 0)) || (((a0.getD p1.toNat default).fSide) != 0)) || ((a0.getD p1.toNat default).fLS)) || ((a0.getD p1.toNat default).fDV)) || (!strEq ((a0.getD p1.toNat default).fIn) (⟨#[]⟩ : ByteArray))) || (!strEq ((a0.getD p1.toNat default).fOut) (⟨#[]⟩ : ByteArray)))) || ((((a0.getD p1.toNat default).fLen) != 0) && (((a0.getD p1.toNat default).fAddr) == 0)) then (some (.inr (.inr 1))) else ((gc ((a0.getD p1.toNat default).fLS) (M.ref8_within ((a0.getD p1.toNat default).fArea) 0 255)).bind fun r12 => (gc (((a0.getD p1.toNat default).fLS) && !(!r12)) (M.ref8_within ((a0.getD p1.toNat default).fCost) 1 65535)).bind fun r13 => bif (((a0.getD p1.toNat default).fLS) && ((!r12) || (!r13))) || ((!((a0.getD p1.toNat default).fLS)) && ((((a0.getD p1.toNat default).fArea) != 0) || (((a0.getD p1.toNat default).fCost) != 0))) then (some (.inr (.inr 1))) else ((loopM (M.ref8_interfaces_l3 a0 p1) 0).bind fun y19 => Sum.elim (fun _ => some (.inl (wr .i64 (p1 + 1)))) (fun y21 => some (.inr (.inr y21))) y19)))) (fun y8 => some (.inr (.inr y8))) y6))) else (some (.inr (.inl ())))
noncomputable def M.ref8_interfaces (a0 : List TInterface) : Option Int :=
  bif decide ((a0.length : Int) > 8) then (some 7) else ((loopM (M.ref8_interfaces_l1 a0) 0).bind fun y22 => Sum.elim (fun _ => some 0) (fun y24 => some y24) y22)
noncomputable def M.ref4_Valid (a0 : TPrefix) : Option Bool :=
  (gc ((decide (a0.fLen ≥ 0)) && (decide (a0.fLen ≤ 32))) (M.ref4_Mask a0.fLen)).bind fun r1 => some (((decide (a0.fLen ≥ 0)) && (decide (a0.fLen ≤ 32))) && ((bitD .andNot .u32 a0.fAddr r1) == 0))
noncomputable def M.ref8_ValidPrefixRule (a0 : TPrefixRule) : Option Bool :=
  (M.ref4_Valid a0.fPrefix).bind fun r1 => some (((r1 && (decide (a0.fPrefix.fLen ≤ a0.fMin))) && (decide (a0.fMin ≤ a0.fMax))) && (decide (a0.fMax ≤ 32)))
noncomputable def M.ref8_prefixLists_l2 (a0 : List TPrefixList) (p1 : Int) (p4 : Int) : Option (Int ⊕ (Unit ⊕ Int)) :=
  bif decide (p4 < p1) then (gd [decide (0 ≤ p4), decide (p4 < (a0.length : Int)), decide (0 ≤ p1), decide (p1 < (a0.length : Int))] (bif strEq ((a0.getD p4.toNat default).fName) ((a0.getD p1.toNat default).fName) then (some (.inr (.inr 4))) else (some (.inl (wr .i64 (p4 + 1)))))) else (some (.inr (.inl ())))
noncomputable def M.ref8_prefixLists_l3 (a0 : List TPrefixList) (p1 : Int) (p9 : Int) : Option (Int ⊕ (Unit ⊕ Int)) :=
  gd [decide (0 ≤ p1), decide (p1 < (a0.length : Int))] (bif decide (p9 < (((a0.getD p1.toNat default).fRules).length : Int)) then ((M.ref8_ValidPrefixRule (((a0.getD p1.toNat default).fRules).getD p9.toNat default)).bind fun r11 => gd [decide (0 ≤ p1), decide (p1 < (a0.length : Int)), decide (0 ≤ p9), decide (p9 < (((a0.getD p1.toNat default).fRules).length : Int))] (bif !r11 then (some (.inr (.inr 1))) else (some (.inl (wr .i64 (p9 + 1)))))) else (some (.inr (.inl ()))))
noncomputable def M.ref8_prefixLists_l1 (a0 : List TPrefixList) (p1 : Int) : Option (Int ⊕ (Unit ⊕ Int)) :=
  bif decide (p1 < (a0.length : Int)) then ((M.ref4_Name ((a0.getD p1.toNat default).fName)).bind fun r3 => gd [decide (0 ≤ p1), decide (p1 < (a0.length : Int))] (bif !r3 then (some (.inr (.inr 3))) else ((loopM (M.ref8_prefixLists_l2 a0 p1) 0).bind fun y6 => Sum.elim (fun _ => gd [decide (0 ≤ p1), decide (p1 < (a0.length : Int))] (bif (((a0.getD p1.toNat default).fRules).length : Int) == 0 then (some (.inr (.inr 1))) else (gd [decide (0 ≤ p1), decide (p1 < (a0.length : Int))] (bif decide ((((a0.getD p1.toNat default).fRules).length : Int) > 16) then (some (.inr (.inr 7))) else ((loopM (M.ref8_prefixLists_l3 a0 p1) 0).bind fun y12 => Sum.elim (fun _ => some (.inl (wr .i64 (p1 + 1)))) (fun y14 => some (.inr (.inr y14))) y12))))) (fun y8 => some (.inr (.inr y8))) y6))) else (some (.inr (.inl ())))
noncomputable def M.ref8_prefixLists (a0 : List TPrefixList) : Option Int :=
  bif decide ((a0.length : Int) > 8) then (some 7) else ((loopM (M.ref8_prefixLists_l1 a0) 0).bind fun y15 => Sum.elim (fun _ => some 0) (fun y17 => some y17) y15)
noncomputable def M.ref8_PrefixList_l1 (a0 : TRouter) (a1 : ByteArray) (p1 : Int) : Option (Int ⊕ (Unit ⊕ Int)) :=
  bif decide (p1 < (a0.fLists.length : Int)) then (gd [decide (0 ≤ p1), decide (p1 < (a0.fLists.length : Int))] (bif strEq ((a0.fLists.getD p1.toNat default).fName) a1 then (some (.inr (.inr p1))) else (some (.inl (wr .i64 (p1 + 1)))))) else (some (.inr (.inl ())))
noncomputable def M.ref8_PrefixList (a0 : TRouter) (a1 : ByteArray) : Option Int :=
  (loopM (M.ref8_PrefixList_l1 a0 a1) 0).bind fun y3 => Sum.elim (fun _ => some (-1)) (fun y5 => some y5) y3
noncomputable def M.ref8_routeMaps_l2 (a0 : TRouter) (p1 : Int) (p4 : Int) : Option (Int ⊕ (Unit ⊕ Int)) :=
  bif decide (p4 < p1) then (gd [decide (0 ≤ p4), decide (p4 < (a0.fMaps.length : Int)), decide (0 ≤ p1), decide (p1 < (a0.fMaps.length : Int))] (bif strEq ((a0.fMaps.getD p4.toNat default).fName) ((a0.fMaps.getD p1.toNat default).fName) then (some (.inr (.inr 4))) else (some (.inl (wr .i64 (p4 + 1)))))) else (some (.inr (.inl ())))
noncomputable def M.ref8_routeMaps_l3 (a0 : TRouter) (p1 : Int) (p9 : Int) : Option (Int ⊕ (Unit ⊕ Int)) :=
  gd [decide (0 ≤ p1), decide (p1 < (a0.fMaps.length : Int))] (bif decide (p9 < (((a0.fMaps.getD p1.toNat default).fClauses).length : Int)) then (gd [decide (0 ≤ p1), decide (p1 < (a0.fMaps.length : Int)), decide (0 ≤ p9), decide (p9 < (((a0.fMaps.getD p1.toNat default).fClauses).length : Int))] ((gc (!strEq ((((a0.fMaps.getD p1.toNat default).fClauses).getD p9.toNat default).fList) (⟨#[]⟩ : ByteArray)) (M.ref8_PrefixList a0 ((((a0.fMaps.getD p1.toNat default).fClauses).getD p9.toNat default).fList))).bind fun r11 => bif (!strEq ((((a0.fMaps.getD p1.toNat default).fClauses).getD p9.toNat default).fList) (⟨#[]⟩ : ByteArray)) && (decide (r11 < 0)) then (some (.inr (.inr 5))) else ((M.ref8_within ((((a0.fMaps.getD p1.toNat default).fClauses).getD p9.toNat default).fTag) (-1) 65535).bind fun r12 => (gc (!(!r12)) (M.ref8_within ((((a0.fMaps.getD p1.toNat default).fClauses).getD p9.toNat default).fSetTag) (-1) 65535)).bind fun r13 => (gc (!((!r12) || (!r13))) (M.ref8_within ((((a0.fMaps.getD p1.toNat default).fClauses).getD p9.toNat default).fSetMetric) (-1) 16777215)).bind fun r14 => (gc (!(((!r12) || (!r13)) || (!r14))) (M.ref8_within ((((a0.fMaps.getD p1.toNat default).fClauses).getD p9.toNat default).fSetPref) (-1) 1000000)).bind fun r15 => (gc (!((((!r12) || (!r13)) || (!r14)) || (!r15))) (M.ref8_within ((((a0.fMaps.getD p1.toNat default).fClauses).getD p9.toNat default).fPrepend) 0 8)).bind fun r16 => bif ((((!r12) || (!r13)) || (!r14)) || (!r15)) || (!r16) then (some (.inr (.inr 1))) else (some (.inl (wr .i64 (p9 + 1))))))) else (some (.inr (.inl ()))))
noncomputable def M.ref8_routeMaps_l1 (a0 : TRouter) (p1 : Int) : Option (Int ⊕ (Unit ⊕ Int)) :=
  bif decide (p1 < (a0.fMaps.length : Int)) then ((M.ref4_Name ((a0.fMaps.getD p1.toNat default).fName)).bind fun r3 => gd [decide (0 ≤ p1), decide (p1 < (a0.fMaps.length : Int))] (bif !r3 then (some (.inr (.inr 3))) else ((loopM (M.ref8_routeMaps_l2 a0 p1) 0).bind fun y6 => Sum.elim (fun _ => gd [decide (0 ≤ p1), decide (p1 < (a0.fMaps.length : Int))] (bif (((a0.fMaps.getD p1.toNat default).fClauses).length : Int) == 0 then (some (.inr (.inr 1))) else (gd [decide (0 ≤ p1), decide (p1 < (a0.fMaps.length : Int))] (bif decide ((((a0.fMaps.getD p1.toNat default).fClauses).length : Int) > 8) then (some (.inr (.inr 7))) else ((loopM (M.ref8_routeMaps_l3 a0 p1) 0).bind fun y17 => Sum.elim (fun _ => some (.inl (wr .i64 (p1 + 1)))) (fun y19 => some (.inr (.inr y19))) y17))))) (fun y8 => some (.inr (.inr y8))) y6))) else (some (.inr (.inl ())))
noncomputable def M.ref8_routeMaps (a0 : TRouter) : Option Int :=
  bif decide ((a0.fMaps.length : Int) > 8) then (some 7) else ((loopM (M.ref8_routeMaps_l1 a0) 0).bind fun y20 => Sum.elim (fun _ => some 0) (fun y22 => some y22) y20)
noncomputable def M.ref8_ports (a0 : TPortRange) : Option Bool :=
  some (((decide (0 ≤ a0.fLo)) && (decide (a0.fLo ≤ a0.fHi))) && (decide (a0.fHi ≤ 65535)))
noncomputable def M.ref8_all (a0 : TPortRange) : Option Bool :=
  some ((a0.fLo == 0) && ((a0.fHi == 65535) && true))
noncomputable def M.ref8_ValidRule (a0 : TRule) : Option Bool :=
  (M.ref8_within a0.fProto (-1) 255).bind fun r1 => (gc (!(((!r1) || ((bitD .and .u32 a0.fSrc.fAddr a0.fSrc.fMask) != 0)) || ((bitD .and .u32 a0.fDst.fAddr a0.fDst.fMask) != 0))) (M.ref8_ports a0.fSrcPorts)).bind fun r2 => (gc (!((((!r1) || ((bitD .and .u32 a0.fSrc.fAddr a0.fSrc.fMask) != 0)) || ((bitD .and .u32 a0.fDst.fAddr a0.fDst.fMask) != 0)) || (!r2))) (M.ref8_ports a0.fDstPorts)).bind fun r3 => bif ((((!r1) || ((bitD .and .u32 a0.fSrc.fAddr a0.fSrc.fMask) != 0)) || ((bitD .and .u32 a0.fDst.fAddr a0.fDst.fMask) != 0)) || (!r2)) || (!r3) then (some false) else ((gc (!((a0.fProto == 6) || (a0.fProto == 17))) (M.ref8_all a0.fSrcPorts)).bind fun r4 => (gc ((!((a0.fProto == 6) || (a0.fProto == 17))) && r4) (M.ref8_all a0.fDstPorts)).bind fun r5 => some (((a0.fProto == 6) || (a0.fProto == 17)) || (r4 && r5)))
noncomputable def M.ref8_accessLists_l2 (a0 : List TACL) (p1 : Int) (p4 : Int) : Option (Int ⊕ (Unit ⊕ Int)) :=
  bif decide (p4 < p1) then (gd [decide (0 ≤ p4), decide (p4 < (a0.length : Int)), decide (0 ≤ p1), decide (p1 < (a0.length : Int))] (bif strEq ((a0.getD p4.toNat default).fName) ((a0.getD p1.toNat default).fName) then (some (.inr (.inr 4))) else (some (.inl (wr .i64 (p4 + 1)))))) else (some (.inr (.inl ())))
noncomputable def M.ref8_accessLists_l3 (a0 : List TACL) (p1 : Int) (p9 : Int) : Option (Int ⊕ (Unit ⊕ Int)) :=
  gd [decide (0 ≤ p1), decide (p1 < (a0.length : Int))] (bif decide (p9 < (((a0.getD p1.toNat default).fRules).length : Int)) then ((M.ref8_ValidRule (((a0.getD p1.toNat default).fRules).getD p9.toNat default)).bind fun r11 => gd [decide (0 ≤ p1), decide (p1 < (a0.length : Int)), decide (0 ≤ p9), decide (p9 < (((a0.getD p1.toNat default).fRules).length : Int))] (bif !r11 then (some (.inr (.inr 1))) else (some (.inl (wr .i64 (p9 + 1)))))) else (some (.inr (.inl ()))))
noncomputable def M.ref8_accessLists_l1 (a0 : List TACL) (p1 : Int) : Option (Int ⊕ (Unit ⊕ Int)) :=
  bif decide (p1 < (a0.length : Int)) then ((M.ref4_Name ((a0.getD p1.toNat default).fName)).bind fun r3 => gd [decide (0 ≤ p1), decide (p1 < (a0.length : Int))] (bif !r3 then (some (.inr (.inr 3))) else ((loopM (M.ref8_accessLists_l2 a0 p1) 0).bind fun y6 => Sum.elim (fun _ => gd [decide (0 ≤ p1), decide (p1 < (a0.length : Int))] (bif (((a0.getD p1.toNat default).fRules).length : Int) == 0 then (some (.inr (.inr 1))) else (gd [decide (0 ≤ p1), decide (p1 < (a0.length : Int))] (bif decide ((((a0.getD p1.toNat default).fRules).length : Int) > 16) then (some (.inr (.inr 7))) else ((loopM (M.ref8_accessLists_l3 a0 p1) 0).bind fun y12 => Sum.elim (fun _ => some (.inl (wr .i64 (p1 + 1)))) (fun y14 => some (.inr (.inr y14))) y12))))) (fun y8 => some (.inr (.inr y8))) y6))) else (some (.inr (.inl ())))
noncomputable def M.ref8_accessLists (a0 : List TACL) : Option Int :=
  bif decide ((a0.length : Int) > 8) then (some 7) else ((loopM (M.ref8_accessLists_l1 a0) 0).bind fun y15 => Sum.elim (fun _ => some 0) (fun y17 => some y17) y15)
noncomputable def M.ref8_ACL_l1 (a0 : TRouter) (a1 : ByteArray) (p1 : Int) : Option (Int ⊕ (Unit ⊕ Int)) :=
  bif decide (p1 < (a0.fACLs.length : Int)) then (gd [decide (0 ≤ p1), decide (p1 < (a0.fACLs.length : Int))] (bif strEq ((a0.fACLs.getD p1.toNat default).fName) a1 then (some (.inr (.inr p1))) else (some (.inl (wr .i64 (p1 + 1)))))) else (some (.inr (.inl ())))
noncomputable def M.ref8_ACL (a0 : TRouter) (a1 : ByteArray) : Option Int :=
  (loopM (M.ref8_ACL_l1 a0 a1) 0).bind fun y3 => Sum.elim (fun _ => some (-1)) (fun y5 => some y5) y3
noncomputable def M.ref8_translations_k1 (a0 : TRouter) (p1 : Int) (p3 : Bool) : Option (Int ⊕ (Unit ⊕ Int)) :=
  bif !p3 then (some (.inr (.inr 1))) else ((gc (((a0.fNAT.getD p1.toNat default).fKind) == 2) (M.ref8_ACL a0 ((a0.fNAT.getD p1.toNat default).fList))).bind fun r4 => bif (((a0.fNAT.getD p1.toNat default).fKind) == 2) && (decide (r4 < 0)) then (some (.inr (.inr 5))) else (some (.inl (wr .i64 (p1 + 1)))))
noncomputable def M.ref8_translations_l1 (a0 : TRouter) (p1 : Int) : Option (Int ⊕ (Unit ⊕ Int)) :=
  bif decide (p1 < (a0.fNAT.length : Int)) then (gd [decide (0 ≤ p1), decide (p1 < (a0.fNAT.length : Int))] (bif ((a0.fNAT.getD p1.toNat default).fKind) == 1 then (M.ref8_translations_k1 a0 p1 (((((a0.fNAT.getD p1.toNat default).fInside) != 0) && (((a0.fNAT.getD p1.toNat default).fOutside) != 0)) && ((((a0.fNAT.getD p1.toNat default).fKind) == ((a0.fNAT.getD p1.toNat default).fKind)) && ((((a0.fNAT.getD p1.toNat default).fInside) == ((a0.fNAT.getD p1.toNat default).fInside)) && ((((a0.fNAT.getD p1.toNat default).fOutside) == ((a0.fNAT.getD p1.toNat default).fOutside)) && ((((a0.fNAT.getD p1.toNat default).fProto) == 0) && ((((a0.fNAT.getD p1.toNat default).fInsidePort) == 0) && ((((a0.fNAT.getD p1.toNat default).fOutsidePort) == 0) && (strEq ((a0.fNAT.getD p1.toNat default).fList) (⟨#[]⟩ : ByteArray) && ((((a0.fNAT.getD p1.toNat default).fLo) == 0) && ((((a0.fNAT.getD p1.toNat default).fHi) == 0) && true))))))))))) else (bif ((a0.fNAT.getD p1.toNat default).fKind) == 2 then (M.ref8_translations_k1 a0 p1 ((((((a0.fNAT.getD p1.toNat default).fLo) != 0) && (decide (((a0.fNAT.getD p1.toNat default).fLo) ≤ ((a0.fNAT.getD p1.toNat default).fHi)))) && (decide ((wr .u32 (((a0.fNAT.getD p1.toNat default).fHi) - ((a0.fNAT.getD p1.toNat default).fLo))) < 8))) && ((((a0.fNAT.getD p1.toNat default).fKind) == ((a0.fNAT.getD p1.toNat default).fKind)) && ((((a0.fNAT.getD p1.toNat default).fInside) == 0) && ((((a0.fNAT.getD p1.toNat default).fOutside) == 0) && ((((a0.fNAT.getD p1.toNat default).fProto) == 0) && ((((a0.fNAT.getD p1.toNat default).fInsidePort) == 0) && ((((a0.fNAT.getD p1.toNat default).fOutsidePort) == 0) && (strEq ((a0.fNAT.getD p1.toNat default).fList) ((a0.fNAT.getD p1.toNat default).fList) && ((((a0.fNAT.getD p1.toNat default).fLo) == ((a0.fNAT.getD p1.toNat default).fLo)) && ((((a0.fNAT.getD p1.toNat default).fHi) == ((a0.fNAT.getD p1.toNat default).fHi)) && true))))))))))) else (bif ((a0.fNAT.getD p1.toNat default).fKind) == 3 then ((gc (((((a0.fNAT.getD p1.toNat default).fInside) != 0) && (((a0.fNAT.getD p1.toNat default).fOutside) != 0)) && ((((a0.fNAT.getD p1.toNat default).fProto) == 6) || (((a0.fNAT.getD p1.toNat default).fProto) == 17))) (M.ref8_within ((a0.fNAT.getD p1.toNat default).fInsidePort) 0 65535)).bind fun r5 => (gc ((((((a0.fNAT.getD p1.toNat default).fInside) != 0) && (((a0.fNAT.getD p1.toNat default).fOutside) != 0)) && ((((a0.fNAT.getD p1.toNat default).fProto) == 6) || (((a0.fNAT.getD p1.toNat default).fProto) == 17))) && r5) (M.ref8_within ((a0.fNAT.getD p1.toNat default).fOutsidePort) 0 65535)).bind fun r6 => M.ref8_translations_k1 a0 p1 ((((((((((a0.fNAT.getD p1.toNat default).fInside) != 0) && (((a0.fNAT.getD p1.toNat default).fOutside) != 0)) && ((((a0.fNAT.getD p1.toNat default).fProto) == 6) || (((a0.fNAT.getD p1.toNat default).fProto) == 17))) && r5) && r6) && (strEq ((a0.fNAT.getD p1.toNat default).fList) (⟨#[]⟩ : ByteArray))) && (((a0.fNAT.getD p1.toNat default).fLo) == 0)) && (((a0.fNAT.getD p1.toNat default).fHi) == 0))) else (M.ref8_translations_k1 a0 p1 false))))) else (some (.inr (.inl ())))
noncomputable def M.ref8_translations (a0 : TRouter) : Option Int :=
  bif decide ((a0.fNAT.length : Int) > 8) then (some 7) else ((loopM (M.ref8_translations_l1 a0) 0).bind fun y7 => Sum.elim (fun _ => some 0) (fun y9 => some y9) y7)
noncomputable def M.ref8_filters_l1 (a0 : TRouter) (p1 : Int) : Option (Int ⊕ (Unit ⊕ Int)) :=
  bif decide (p1 < (a0.fInterfaces.length : Int)) then (gd [decide (0 ≤ p1), decide (p1 < (a0.fInterfaces.length : Int))] ((gc (!strEq ((a0.fInterfaces.getD p1.toNat default).fIn) (⟨#[]⟩ : ByteArray)) (M.ref8_ACL a0 ((a0.fInterfaces.getD p1.toNat default).fIn))).bind fun r3 => (gc ((!((!strEq ((a0.fInterfaces.getD p1.toNat default).fIn) (⟨#[]⟩ : ByteArray)) && (decide (r3 < 0)))) && (!strEq ((a0.fInterfaces.getD p1.toNat default).fOut) (⟨#[]⟩ : ByteArray))) (M.ref8_ACL a0 ((a0.fInterfaces.getD p1.toNat default).fOut))).bind fun r4 => bif ((!strEq ((a0.fInterfaces.getD p1.toNat default).fIn) (⟨#[]⟩ : ByteArray)) && (decide (r3 < 0))) || ((!strEq ((a0.fInterfaces.getD p1.toNat default).fOut) (⟨#[]⟩ : ByteArray)) && (decide (r4 < 0))) then (some (.inr (.inr 5))) else (some (.inl (wr .i64 (p1 + 1)))))) else (some (.inr (.inl ())))
noncomputable def M.ref8_filters (a0 : TRouter) : Option Int :=
  (loopM (M.ref8_filters_l1 a0) 0).bind fun y5 => Sum.elim (fun _ => some 0) (fun y7 => some y7) y5
noncomputable def M.ref8_Address_l1 (a0 : TRouter) (a1 : Int) (p1 : Int) : Option (Int ⊕ (Unit ⊕ Int)) :=
  bif decide (p1 < (a0.fInterfaces.length : Int)) then (gd [decide (0 ≤ p1), decide (p1 < (a0.fInterfaces.length : Int)), guardB (((a0.fInterfaces.getD p1.toNat default).fLen) != 0) (decide (0 ≤ p1)), guardB (((a0.fInterfaces.getD p1.toNat default).fLen) != 0) (decide (p1 < (a0.fInterfaces.length : Int)))] (bif (((a0.fInterfaces.getD p1.toNat default).fLen) != 0) && (((a0.fInterfaces.getD p1.toNat default).fAddr) == a1) then (some (.inr (.inr p1))) else (some (.inl (wr .i64 (p1 + 1)))))) else (some (.inr (.inl ())))
noncomputable def M.ref8_Address (a0 : TRouter) (a1 : Int) : Option Int :=
  (loopM (M.ref8_Address_l1 a0 a1) 0).bind fun y3 => Sum.elim (fun _ => some (-1)) (fun y5 => some y5) y3
noncomputable def M.ref8_Interface_l1 (a0 : TRouter) (a1 : ByteArray) (p1 : Int) : Option (Int ⊕ (Unit ⊕ Int)) :=
  bif decide (p1 < (a0.fInterfaces.length : Int)) then (gd [decide (0 ≤ p1), decide (p1 < (a0.fInterfaces.length : Int))] (bif strEq ((a0.fInterfaces.getD p1.toNat default).fName) a1 then (some (.inr (.inr p1))) else (some (.inl (wr .i64 (p1 + 1)))))) else (some (.inr (.inl ())))
noncomputable def M.ref8_Interface (a0 : TRouter) (a1 : ByteArray) : Option Int :=
  (loopM (M.ref8_Interface_l1 a0 a1) 0).bind fun y3 => Sum.elim (fun _ => some (-1)) (fun y5 => some y5) y3
noncomputable def M.ref8_statics_l2 (a0 : TRouter) (p1 : Int) (p11 : Int) : Option (Int ⊕ (Unit ⊕ Int)) :=
  bif decide (p11 < p1) then (gd [decide (0 ≤ p11), decide (p11 < (a0.fStatics.length : Int)), guardB (((((a0.fStatics.getD p11.toNat default).fPrefix).fAddr) == (((a0.fStatics.getD p1.toNat default).fPrefix).fAddr)) && (((((a0.fStatics.getD p11.toNat default).fPrefix).fLen) == (((a0.fStatics.getD p1.toNat default).fPrefix).fLen)) && true)) (decide (0 ≤ p11)), guardB (((((a0.fStatics.getD p11.toNat default).fPrefix).fAddr) == (((a0.fStatics.getD p1.toNat default).fPrefix).fAddr)) && (((((a0.fStatics.getD p11.toNat default).fPrefix).fLen) == (((a0.fStatics.getD p1.toNat default).fPrefix).fLen)) && true)) (decide (p11 < (a0.fStatics.length : Int)))] (bif (((((a0.fStatics.getD p11.toNat default).fPrefix).fAddr) == (((a0.fStatics.getD p1.toNat default).fPrefix).fAddr)) && (((((a0.fStatics.getD p11.toNat default).fPrefix).fLen) == (((a0.fStatics.getD p1.toNat default).fPrefix).fLen)) && true)) && (((a0.fStatics.getD p11.toNat default).fAdmin) == ((a0.fStatics.getD p1.toNat default).fAdmin)) then (some (.inr (.inr 6))) else (some (.inl (wr .i64 (p11 + 1)))))) else (some (.inr (.inl ())))
noncomputable def M.ref8_statics_k4 (a0 : TRouter) (p1 : Int) (_p10 : Unit) : Option (Int ⊕ (Unit ⊕ Int)) :=
  (loopM (M.ref8_statics_l2 a0 p1) 0).bind fun y13 => Sum.elim (fun _ => some (.inl (wr .i64 (p1 + 1)))) (fun y15 => some (.inr (.inr y15))) y13
noncomputable def M.ref8_statics_k3 (a0 : TRouter) (p1 : Int) (p5 : Int) : Option (Int ⊕ (Unit ⊕ Int)) :=
  (M.ref4_Valid ((a0.fStatics.getD p1.toNat default).fPrefix)).bind fun r6 => (gc ((!((!r6) || (p5 != 1))) && (((a0.fStatics.getD p1.toNat default).fNext) != 0)) (M.ref8_Address a0 ((a0.fStatics.getD p1.toNat default).fNext))).bind fun r7 => (gc (!(((!r6) || (p5 != 1)) || ((((a0.fStatics.getD p1.toNat default).fNext) != 0) && (decide (r7 ≥ 0))))) (M.ref8_within ((a0.fStatics.getD p1.toNat default).fAdmin) 1 255)).bind fun r8 => (gc (!((((!r6) || (p5 != 1)) || ((((a0.fStatics.getD p1.toNat default).fNext) != 0) && (decide (r7 ≥ 0)))) || (!r8))) (M.ref8_within ((a0.fStatics.getD p1.toNat default).fTag) 0 65535)).bind fun r9 => bif ((((!r6) || (p5 != 1)) || ((((a0.fStatics.getD p1.toNat default).fNext) != 0) && (decide (r7 ≥ 0)))) || (!r8)) || (!r9) then (some (.inr (.inr 1))) else (bif !strEq ((a0.fStatics.getD p1.toNat default).fIface) (⟨#[]⟩ : ByteArray) then ((M.ref8_Interface a0 ((a0.fStatics.getD p1.toNat default).fIface)).bind fun r16 => bif decide (r16 < 0) then (some (.inr (.inr 5))) else (gd [decide (0 ≤ r16), decide (r16 < (a0.fInterfaces.length : Int))] (bif ((a0.fInterfaces.getD r16.toNat default).fLen) == 0 then (some (.inr (.inr 1))) else (M.ref8_statics_k4 a0 p1 ())))) else (M.ref8_statics_k4 a0 p1 ()))
noncomputable def M.ref8_statics_k2 (a0 : TRouter) (p1 : Int) (p4 : Int) : Option (Int ⊕ (Unit ⊕ Int)) :=
  bif (a0.fStatics.getD p1.toNat default).fDiscard then (M.ref8_statics_k3 a0 p1 (wr .i64 (p4 + 1))) else (M.ref8_statics_k3 a0 p1 p4)
noncomputable def M.ref8_statics_k1 (a0 : TRouter) (p1 : Int) (p3 : Int) : Option (Int ⊕ (Unit ⊕ Int)) :=
  bif !strEq ((a0.fStatics.getD p1.toNat default).fIface) (⟨#[]⟩ : ByteArray) then (M.ref8_statics_k2 a0 p1 (wr .i64 (p3 + 1))) else (M.ref8_statics_k2 a0 p1 p3)
noncomputable def M.ref8_statics_l1 (a0 : TRouter) (p1 : Int) : Option (Int ⊕ (Unit ⊕ Int)) :=
  bif decide (p1 < (a0.fStatics.length : Int)) then (gd [decide (0 ≤ p1), decide (p1 < (a0.fStatics.length : Int))] (bif ((a0.fStatics.getD p1.toNat default).fNext) != 0 then (M.ref8_statics_k1 a0 p1 1) else (M.ref8_statics_k1 a0 p1 0))) else (some (.inr (.inl ())))
noncomputable def M.ref8_statics (a0 : TRouter) : Option Int :=
  bif decide ((a0.fStatics.length : Int) > 16) then (some 7) else ((loopM (M.ref8_statics_l1 a0) 0).bind fun y17 => Sum.elim (fun _ => some 0) (fun y19 => some y19) y17)
noncomputable def M.ref8_RouteMap_l1 (a0 : TRouter) (a1 : ByteArray) (p1 : Int) : Option (Int ⊕ (Unit ⊕ Int)) :=
  bif decide (p1 < (a0.fMaps.length : Int)) then (gd [decide (0 ≤ p1), decide (p1 < (a0.fMaps.length : Int))] (bif strEq ((a0.fMaps.getD p1.toNat default).fName) a1 then (some (.inr (.inr p1))) else (some (.inl (wr .i64 (p1 + 1)))))) else (some (.inr (.inl ())))
noncomputable def M.ref8_RouteMap (a0 : TRouter) (a1 : ByteArray) : Option Int :=
  (loopM (M.ref8_RouteMap_l1 a0 a1) 0).bind fun y3 => Sum.elim (fun _ => some (-1)) (fun y5 => some y5) y3
noncomputable def M.ref8_redistributions_l2 (a1 : List TRedist) (p1 : Int) (p7 : Int) : Option (Int ⊕ (Unit ⊕ Int)) :=
  bif decide (p7 < p1) then (gd [decide (0 ≤ p7), decide (p7 < (a1.length : Int))] (bif ((a1.getD p7.toNat default).fFrom) == ((a1.getD p1.toNat default).fFrom) then (some (.inr (.inr 4))) else (some (.inl (wr .i64 (p7 + 1)))))) else (some (.inr (.inl ())))
noncomputable def M.ref8_redistributions_l1 (a0 : TRouter) (a1 : List TRedist) (a2 : Int) (a3 : Int) (a4 : Int) (p1 : Int) : Option (Int ⊕ (Unit ⊕ Int)) :=
  bif decide (p1 < (a1.length : Int)) then (gd [decide (0 ≤ p1), decide (p1 < (a1.length : Int))] ((M.ref8_within ((a1.getD p1.toNat default).fFrom) 1 5).bind fun r3 => (gc (!((!r3) || (((a1.getD p1.toNat default).fFrom) == a2))) (M.ref8_within ((a1.getD p1.toNat default).fMetric) a3 a4)).bind fun r4 => (gc (!(((!r3) || (((a1.getD p1.toNat default).fFrom) == a2)) || (!r4))) (M.ref8_within ((a1.getD p1.toNat default).fTag) 0 65535)).bind fun r5 => bif (((!r3) || (((a1.getD p1.toNat default).fFrom) == a2)) || (!r4)) || (!r5) then (some (.inr (.inr 1))) else (bif (((a2 == 3) && (((a1.getD p1.toNat default).fType) != 1)) && (((a1.getD p1.toNat default).fType) != 2)) || ((a2 != 3) && (((a1.getD p1.toNat default).fType) != 0)) then (some (.inr (.inr 1))) else ((gc (!strEq ((a1.getD p1.toNat default).fMap) (⟨#[]⟩ : ByteArray)) (M.ref8_RouteMap a0 ((a1.getD p1.toNat default).fMap))).bind fun r6 => bif (!strEq ((a1.getD p1.toNat default).fMap) (⟨#[]⟩ : ByteArray)) && (decide (r6 < 0)) then (some (.inr (.inr 5))) else ((loopM (M.ref8_redistributions_l2 a1 p1) 0).bind fun y9 => Sum.elim (fun _ => some (.inl (wr .i64 (p1 + 1)))) (fun y11 => some (.inr (.inr y11))) y9))))) else (some (.inr (.inl ())))
noncomputable def M.ref8_redistributions (a0 : TRouter) (a1 : List TRedist) (a2 : Int) (a3 : Int) (a4 : Int) : Option Int :=
  bif decide ((a1.length : Int) > 4) then (some 7) else ((loopM (M.ref8_redistributions_l1 a0 a1 a2 a3 a4) 0).bind fun y12 => Sum.elim (fun _ => some 0) (fun y14 => some y14) y12)
noncomputable def M.ref8_linkState_l2 (a0 : TRouter) (p2 : Int) (p6 : Int) : Option (Int ⊕ (Unit ⊕ Int)) :=
  bif decide (p6 < p2) then ((gc (((a0.fLS.fRanges.getD p6.toNat default).fArea) == ((a0.fLS.fRanges.getD p2.toNat default).fArea)) (M.ref4_Overlaps ((a0.fLS.fRanges.getD p6.toNat default).fPrefix) ((a0.fLS.fRanges.getD p2.toNat default).fPrefix))).bind fun r8 => gd [decide (0 ≤ p6), decide (p6 < (a0.fLS.fRanges.length : Int)), decide (0 ≤ p2), decide (p2 < (a0.fLS.fRanges.length : Int)), guardB (((a0.fLS.fRanges.getD p6.toNat default).fArea) == ((a0.fLS.fRanges.getD p2.toNat default).fArea)) (decide (0 ≤ p6)), guardB (((a0.fLS.fRanges.getD p6.toNat default).fArea) == ((a0.fLS.fRanges.getD p2.toNat default).fArea)) (decide (p6 < (a0.fLS.fRanges.length : Int))), guardB (((a0.fLS.fRanges.getD p6.toNat default).fArea) == ((a0.fLS.fRanges.getD p2.toNat default).fArea)) (decide (0 ≤ p2)), guardB (((a0.fLS.fRanges.getD p6.toNat default).fArea) == ((a0.fLS.fRanges.getD p2.toNat default).fArea)) (decide (p2 < (a0.fLS.fRanges.length : Int)))] (bif (((a0.fLS.fRanges.getD p6.toNat default).fArea) == ((a0.fLS.fRanges.getD p2.toNat default).fArea)) && r8 then (some (.inr (.inr 6))) else (some (.inl (wr .i64 (p6 + 1)))))) else (some (.inr (.inl ())))
noncomputable def M.ref8_linkState_l1 (a0 : TRouter) (p2 : Int) : Option (Int ⊕ (Unit ⊕ Int)) :=
  bif decide (p2 < (a0.fLS.fRanges.length : Int)) then ((M.ref8_within ((a0.fLS.fRanges.getD p2.toNat default).fArea) 0 255).bind fun r4 => (gc (!(!r4)) (M.ref4_Valid ((a0.fLS.fRanges.getD p2.toNat default).fPrefix))).bind fun r5 => gd [decide (0 ≤ p2), decide (p2 < (a0.fLS.fRanges.length : Int)), guardB (!(!r4)) (decide (0 ≤ p2)), guardB (!(!r4)) (decide (p2 < (a0.fLS.fRanges.length : Int)))] (bif (!r4) || (!r5) then (some (.inr (.inr 1))) else ((loopM (M.ref8_linkState_l2 a0 p2) 0).bind fun y9 => Sum.elim (fun _ => some (.inl (wr .i64 (p2 + 1)))) (fun y11 => some (.inr (.inr y11))) y9))) else (some (.inr (.inl ())))
noncomputable def M.ref8_linkState (a0 : TRouter) : Option Int :=
  bif !a0.fLS.fOn then (bif ((a0.fLS.fAdmin != 0) || (decide ((a0.fLS.fRanges.length : Int) > 0))) || (decide ((a0.fLS.fRedist.length : Int) > 0)) then (some 1) else (some 0)) else ((M.ref8_within a0.fLS.fAdmin 1 255).bind fun r1 => bif !r1 then (some 1) else (bif decide ((a0.fLS.fRanges.length : Int) > 4) then (some 7) else ((loopM (M.ref8_linkState_l1 a0) 0).bind fun y12 => Sum.elim (fun _ => (M.ref8_redistributions a0 a0.fLS.fRedist 3 0 16777215).bind fun r15 => some r15) (fun y14 => some y14) y12)))
noncomputable def M.ref8_distance (a0 : TRouter) : Option Int :=
  bif !a0.fDV.fOn then (bif (((a0.fDV.fAdmin != 0) || (!strEq a0.fDV.fIn (⟨#[]⟩ : ByteArray))) || (!strEq a0.fDV.fOut (⟨#[]⟩ : ByteArray))) || (decide ((a0.fDV.fRedist.length : Int) > 0)) then (some 1) else (some 0)) else ((M.ref8_within a0.fDV.fAdmin 1 255).bind fun r1 => bif !r1 then (some 1) else ((gc (!strEq a0.fDV.fIn (⟨#[]⟩ : ByteArray)) (M.ref8_PrefixList a0 a0.fDV.fIn)).bind fun r2 => (gc ((!((!strEq a0.fDV.fIn (⟨#[]⟩ : ByteArray)) && (decide (r2 < 0)))) && (!strEq a0.fDV.fOut (⟨#[]⟩ : ByteArray))) (M.ref8_PrefixList a0 a0.fDV.fOut)).bind fun r3 => bif ((!strEq a0.fDV.fIn (⟨#[]⟩ : ByteArray)) && (decide (r2 < 0))) || ((!strEq a0.fDV.fOut (⟨#[]⟩ : ByteArray)) && (decide (r3 < 0))) then (some 5) else ((M.ref8_redistributions a0 a0.fDV.fRedist 4 1 15).bind fun r4 => some r4)))
noncomputable def M.ref8_neighbors_l2 (a0 : TRouter) (p1 : Int) (p6 : Int) : Option (Int ⊕ (Unit ⊕ Int)) :=
  bif decide (p6 < p1) then (gd [decide (0 ≤ p6), decide (p6 < (a0.fPV.fNeighbors.length : Int)), decide (0 ≤ p1), decide (p1 < (a0.fPV.fNeighbors.length : Int))] (bif ((a0.fPV.fNeighbors.getD p6.toNat default).fAddr) == ((a0.fPV.fNeighbors.getD p1.toNat default).fAddr) then (some (.inr (.inr 4))) else (some (.inl (wr .i64 (p6 + 1)))))) else (some (.inr (.inl ())))
noncomputable def M.ref8_neighbors_l1 (a0 : TRouter) (p1 : Int) : Option (Int ⊕ (Unit ⊕ Int)) :=
  bif decide (p1 < (a0.fPV.fNeighbors.length : Int)) then ((gc (!(((a0.fPV.fNeighbors.getD p1.toNat default).fAddr) == 0)) (M.ref8_within ((a0.fPV.fNeighbors.getD p1.toNat default).fAS) 1 65535)).bind fun r3 => gd [decide (0 ≤ p1), decide (p1 < (a0.fPV.fNeighbors.length : Int)), guardB (!(((a0.fPV.fNeighbors.getD p1.toNat default).fAddr) == 0)) (decide (0 ≤ p1)), guardB (!(((a0.fPV.fNeighbors.getD p1.toNat default).fAddr) == 0)) (decide (p1 < (a0.fPV.fNeighbors.length : Int)))] (bif (((a0.fPV.fNeighbors.getD p1.toNat default).fAddr) == 0) || (!r3) then (some (.inr (.inr 1))) else ((gc (!strEq ((a0.fPV.fNeighbors.getD p1.toNat default).fIn) (⟨#[]⟩ : ByteArray)) (M.ref8_RouteMap a0 ((a0.fPV.fNeighbors.getD p1.toNat default).fIn))).bind fun r4 => (gc ((!((!strEq ((a0.fPV.fNeighbors.getD p1.toNat default).fIn) (⟨#[]⟩ : ByteArray)) && (decide (r4 < 0)))) && (!strEq ((a0.fPV.fNeighbors.getD p1.toNat default).fOut) (⟨#[]⟩ : ByteArray))) (M.ref8_RouteMap a0 ((a0.fPV.fNeighbors.getD p1.toNat default).fOut))).bind fun r5 => gd [decide (0 ≤ p1), decide (p1 < (a0.fPV.fNeighbors.length : Int)), guardB (!strEq ((a0.fPV.fNeighbors.getD p1.toNat default).fIn) (⟨#[]⟩ : ByteArray)) (decide (0 ≤ p1)), guardB (!strEq ((a0.fPV.fNeighbors.getD p1.toNat default).fIn) (⟨#[]⟩ : ByteArray)) (decide (p1 < (a0.fPV.fNeighbors.length : Int))), guardB (!((!strEq ((a0.fPV.fNeighbors.getD p1.toNat default).fIn) (⟨#[]⟩ : ByteArray)) && (decide (r4 < 0)))) (decide (0 ≤ p1)), guardB (!((!strEq ((a0.fPV.fNeighbors.getD p1.toNat default).fIn) (⟨#[]⟩ : ByteArray)) && (decide (r4 < 0)))) (decide (p1 < (a0.fPV.fNeighbors.length : Int))), guardB ((!((!strEq ((a0.fPV.fNeighbors.getD p1.toNat default).fIn) (⟨#[]⟩ : ByteArray)) && (decide (r4 < 0)))) && (!strEq ((a0.fPV.fNeighbors.getD p1.toNat default).fOut) (⟨#[]⟩ : ByteArray))) (decide (0 ≤ p1)), guardB ((!((!strEq ((a0.fPV.fNeighbors.getD p1.toNat default).fIn) (⟨#[]⟩ : ByteArray)) && (decide (r4 < 0)))) && (!strEq ((a0.fPV.fNeighbors.getD p1.toNat default).fOut) (⟨#[]⟩ : ByteArray))) (decide (p1 < (a0.fPV.fNeighbors.length : Int)))] (bif ((!strEq ((a0.fPV.fNeighbors.getD p1.toNat default).fIn) (⟨#[]⟩ : ByteArray)) && (decide (r4 < 0))) || ((!strEq ((a0.fPV.fNeighbors.getD p1.toNat default).fOut) (⟨#[]⟩ : ByteArray)) && (decide (r5 < 0))) then (some (.inr (.inr 5))) else ((loopM (M.ref8_neighbors_l2 a0 p1) 0).bind fun y8 => Sum.elim (fun _ => some (.inl (wr .i64 (p1 + 1)))) (fun y10 => some (.inr (.inr y10))) y8))))) else (some (.inr (.inl ())))
noncomputable def M.ref8_neighbors (a0 : TRouter) : Option Int :=
  bif decide ((a0.fPV.fNeighbors.length : Int) > 8) then (some 7) else ((loopM (M.ref8_neighbors_l1 a0) 0).bind fun y11 => Sum.elim (fun _ => some 0) (fun y13 => some y13) y11)
noncomputable def M.ref8_originations_l2 (a0 : TPathVector) (p1 : Int) (p4 : Int) : Option (Int ⊕ (Unit ⊕ Int)) :=
  bif decide (p4 < p1) then (gd [decide (0 ≤ p4), decide (p4 < (a0.fNetworks.length : Int)), decide (0 ≤ p1), decide (p1 < (a0.fNetworks.length : Int))] (bif ((((a0.fNetworks.getD p4.toNat default).fAddr) == ((a0.fNetworks.getD p1.toNat default).fAddr)) && ((((a0.fNetworks.getD p4.toNat default).fLen) == ((a0.fNetworks.getD p1.toNat default).fLen)) && true)) then (some (.inr (.inr 4))) else (some (.inl (wr .i64 (p4 + 1)))))) else (some (.inr (.inl ())))
noncomputable def M.ref8_originations_l1 (a0 : TPathVector) (p1 : Int) : Option (Int ⊕ (Unit ⊕ Int)) :=
  bif decide (p1 < (a0.fNetworks.length : Int)) then ((M.ref4_Valid (a0.fNetworks.getD p1.toNat default)).bind fun r3 => gd [decide (0 ≤ p1), decide (p1 < (a0.fNetworks.length : Int))] (bif !r3 then (some (.inr (.inr 1))) else ((loopM (M.ref8_originations_l2 a0 p1) 0).bind fun y6 => Sum.elim (fun _ => some (.inl (wr .i64 (p1 + 1)))) (fun y8 => some (.inr (.inr y8))) y6))) else (some (.inr (.inl ())))
noncomputable def M.ref8_originations_l4 (a0 : TPathVector) (p12 : Int) (p15 : Int) : Option (Int ⊕ (Unit ⊕ Int)) :=
  bif decide (p15 < p12) then (gd [decide (0 ≤ p15), decide (p15 < (a0.fAggregates.length : Int)), decide (0 ≤ p12), decide (p12 < (a0.fAggregates.length : Int))] (bif (((((a0.fAggregates.getD p15.toNat default).fPrefix).fAddr) == (((a0.fAggregates.getD p12.toNat default).fPrefix).fAddr)) && (((((a0.fAggregates.getD p15.toNat default).fPrefix).fLen) == (((a0.fAggregates.getD p12.toNat default).fPrefix).fLen)) && true)) then (some (.inr (.inr 4))) else (some (.inl (wr .i64 (p15 + 1)))))) else (some (.inr (.inl ())))
noncomputable def M.ref8_originations_l3 (a0 : TPathVector) (p12 : Int) : Option (Int ⊕ (Unit ⊕ Int)) :=
  bif decide (p12 < (a0.fAggregates.length : Int)) then ((M.ref4_Valid ((a0.fAggregates.getD p12.toNat default).fPrefix)).bind fun r14 => gd [decide (0 ≤ p12), decide (p12 < (a0.fAggregates.length : Int))] (bif !r14 then (some (.inr (.inr 1))) else ((loopM (M.ref8_originations_l4 a0 p12) 0).bind fun y17 => Sum.elim (fun _ => some (.inl (wr .i64 (p12 + 1)))) (fun y19 => some (.inr (.inr y19))) y17))) else (some (.inr (.inl ())))
noncomputable def M.ref8_originations_l6 (a0 : TPathVector) (p23 : Int) (p27 : Int) : Option (Int ⊕ (Unit ⊕ Int)) :=
  bif decide (p27 < p23) then (gd [decide (0 ≤ p27), decide (p27 < (a0.fConditions.length : Int))] (bif (((((a0.fConditions.getD p27.toNat default).fPrefix).fAddr) == (((a0.fConditions.getD p23.toNat default).fPrefix).fAddr)) && (((((a0.fConditions.getD p27.toNat default).fPrefix).fLen) == (((a0.fConditions.getD p23.toNat default).fPrefix).fLen)) && true)) then (some (.inr (.inr 4))) else (some (.inl (wr .i64 (p27 + 1)))))) else (some (.inr (.inl ())))
noncomputable def M.ref8_originations_l5 (a0 : TPathVector) (p23 : Int) : Option (Int ⊕ (Unit ⊕ Int)) :=
  bif decide (p23 < (a0.fConditions.length : Int)) then (gd [decide (0 ≤ p23), decide (p23 < (a0.fConditions.length : Int))] ((M.ref4_Valid ((a0.fConditions.getD p23.toNat default).fPrefix)).bind fun r25 => (gc (!(!r25)) (M.ref4_Valid ((a0.fConditions.getD p23.toNat default).fIf))).bind fun r26 => bif (!r25) || (!r26) then (some (.inr (.inr 1))) else (bif (((((a0.fConditions.getD p23.toNat default).fPrefix).fAddr) == (((a0.fConditions.getD p23.toNat default).fIf).fAddr)) && (((((a0.fConditions.getD p23.toNat default).fPrefix).fLen) == (((a0.fConditions.getD p23.toNat default).fIf).fLen)) && true)) then (some (.inr (.inr 6))) else ((loopM (M.ref8_originations_l6 a0 p23) 0).bind fun y29 => Sum.elim (fun _ => some (.inl (wr .i64 (p23 + 1)))) (fun y31 => some (.inr (.inr y31))) y29)))) else (some (.inr (.inl ())))
noncomputable def M.ref8_originations (a0 : TPathVector) : Option Int :=
  bif decide ((a0.fNetworks.length : Int) > 8) then (some 7) else ((loopM (M.ref8_originations_l1 a0) 0).bind fun y9 => Sum.elim (fun _ => bif decide ((a0.fAggregates.length : Int) > 8) then (some 7) else ((loopM (M.ref8_originations_l3 a0) 0).bind fun y20 => Sum.elim (fun _ => bif decide ((a0.fConditions.length : Int) > 8) then (some 7) else ((loopM (M.ref8_originations_l5 a0) 0).bind fun y32 => Sum.elim (fun _ => some 0) (fun y34 => some y34) y32)) (fun y22 => some y22) y20)) (fun y11 => some y11) y9)
noncomputable def M.ref8_pathVector (a0 : TRouter) : Option Int :=
  bif !a0.fPV.fOn then (bif ((a0.fPV.fExternal != 0) || (a0.fPV.fInternal != 0)) || (decide ((wr .i64 ((wr .i64 ((wr .i64 ((wr .i64 ((a0.fPV.fNeighbors.length : Int) + (a0.fPV.fNetworks.length : Int))) + (a0.fPV.fAggregates.length : Int))) + (a0.fPV.fConditions.length : Int))) + (a0.fPV.fRedist.length : Int))) > 0)) then (some 1) else (some 0)) else ((gc (!(a0.fAS == 0)) (M.ref8_within a0.fPV.fExternal 1 255)).bind fun r1 => (gc (!((a0.fAS == 0) || (!r1))) (M.ref8_within a0.fPV.fInternal 1 255)).bind fun r2 => bif ((a0.fAS == 0) || (!r1)) || (!r2) then (some 1) else ((M.ref8_neighbors a0).bind fun r3 => bif r3 != 0 then (some r3) else ((M.ref8_originations a0.fPV).bind fun r4 => bif r4 != 0 then (some r4) else ((M.ref8_redistributions a0 a0.fPV.fRedist 5 0 16777215).bind fun r5 => some r5))))
noncomputable def M.ref8_CheckRouter_l1 (r3 : Int) (r4 : Int) (r5 : Int) (r6 : Int) (r7 : Int) (r8 : Int) (r9 : Int) (r10 : Int) (r11 : Int) (r12 : Int) (p13 : Int) : Option (Int ⊕ (Unit ⊕ Int)) :=
  bif decide (p13 < (([r3, r4, r5, r6, r7, r8, r9, r10, r11, r12] : List Int).length : Int)) then (gd [decide (0 ≤ p13), decide (p13 < (([r3, r4, r5, r6, r7, r8, r9, r10, r11, r12] : List Int).length : Int))] (bif (([r3, r4, r5, r6, r7, r8, r9, r10, r11, r12] : List Int).getD p13.toNat default) != 0 then (gd [decide (0 ≤ p13), decide (p13 < (([r3, r4, r5, r6, r7, r8, r9, r10, r11, r12] : List Int).length : Int))] (some (.inr (.inr (([r3, r4, r5, r6, r7, r8, r9, r10, r11, r12] : List Int).getD p13.toNat default))))) else (some (.inl (wr .i64 (p13 + 1)))))) else (some (.inr (.inl ())))
noncomputable def M.ref8_CheckRouter (a0 : TRouter) : Option Int :=
  (M.ref4_Name a0.fName).bind fun r1 => bif !r1 then (some 3) else ((M.ref8_within a0.fAS 0 65535).bind fun r2 => bif !r2 then (some 1) else ((M.ref8_interfaces a0.fInterfaces).bind fun r3 => (M.ref8_prefixLists a0.fLists).bind fun r4 => (M.ref8_routeMaps a0).bind fun r5 => (M.ref8_accessLists a0.fACLs).bind fun r6 => (M.ref8_translations a0).bind fun r7 => (M.ref8_filters a0).bind fun r8 => (M.ref8_statics a0).bind fun r9 => (M.ref8_linkState a0).bind fun r10 => (M.ref8_distance a0).bind fun r11 => (M.ref8_pathVector a0).bind fun r12 => (loopM (M.ref8_CheckRouter_l1 r3 r4 r5 r6 r7 r8 r9 r10 r11 r12) 0).bind fun y15 => Sum.elim (fun _ => some 0) (fun y17 => some y17) y15))
noncomputable def M.ref15_within (a0 : Int) (a1 : Int) (a2 : Int) : Option Bool :=
  some ((decide (a1 ≤ a0)) && (decide (a0 ≤ a2)))
noncomputable def M.ref15_plain (a0 : TRoute) (a1 : Bool) (a2 : Bool) (a3 : Bool) : Option Bool :=
  some (((a1 || (a0.fInner == 0)) && (a2 || (((a0.fPref == 0) && ((a0.fPath.length : Int) == 0)) && (a0.fFrom == 0)))) && (a3 || (a0.fNext == 0)))
noncomputable def M.ref15_lessHop (a0 : THop) (a1 : THop) : Option Bool :=
  some ((decide (a0.fIface < a1.fIface)) || ((a0.fIface == a1.fIface) && (decide (a0.fAddr < a1.fAddr))))
noncomputable def M.ref15_hops_l1 (a0 : List THop) (a1 : Bool) (p1 : Int) : Option (Int ⊕ (Unit ⊕ Bool)) :=
  bif decide (p1 < (a0.length : Int)) then ((gc ((!(decide (((a0.getD p1.toNat default).fIface) < 0))) && (decide (p1 > 0))) (M.ref15_lessHop (a0.getD (wr .i64 (p1 - 1)).toNat default) (a0.getD p1.toNat default))).bind fun r3 => gd [decide (0 ≤ p1), decide (p1 < (a0.length : Int)), guardB ((!(decide (((a0.getD p1.toNat default).fIface) < 0))) && (decide (p1 > 0))) (decide (0 ≤ (wr .i64 (p1 - 1)))), guardB ((!(decide (((a0.getD p1.toNat default).fIface) < 0))) && (decide (p1 > 0))) (decide ((wr .i64 (p1 - 1)) < (a0.length : Int))), guardB ((!(decide (((a0.getD p1.toNat default).fIface) < 0))) && (decide (p1 > 0))) (decide (0 ≤ p1)), guardB ((!(decide (((a0.getD p1.toNat default).fIface) < 0))) && (decide (p1 > 0))) (decide (p1 < (a0.length : Int))), guardB (!((decide (((a0.getD p1.toNat default).fIface) < 0)) || ((decide (p1 > 0)) && (!r3)))) (decide (0 ≤ p1)), guardB (!((decide (((a0.getD p1.toNat default).fIface) < 0)) || ((decide (p1 > 0)) && (!r3)))) (decide (p1 < (a0.length : Int)))] (bif ((decide (((a0.getD p1.toNat default).fIface) < 0)) || ((decide (p1 > 0)) && (!r3))) || (!((((a0.getD p1.toNat default).fAddr) == 0) == a1)) then (some (.inr (.inr false))) else (some (.inl (wr .i64 (p1 + 1)))))) else (some (.inr (.inl ())))
noncomputable def M.ref15_hops (a0 : List THop) (a1 : Bool) : Option Bool :=
  (loopM (M.ref15_hops_l1 a0 a1) 0).bind fun y4 => Sum.elim (fun _ => some true) (fun y6 => some y6) y4
noncomputable def M.ref15_validStatic (a0 : TRoute) : Option Bool :=
  (gc (!((a0.fClass != 0) || (a0.fMetric != 0))) (M.ref15_within a0.fAdmin 1 255)).bind fun r1 => (gc (!(((a0.fClass != 0) || (a0.fMetric != 0)) || (!r1))) (M.ref15_plain a0 false false true)).bind fun r2 => bif (((a0.fClass != 0) || (a0.fMetric != 0)) || (!r1)) || (!r2) then (some false) else (bif a0.fNext != 0 then (some (((a0.fHops.length : Int) == 0) && (!a0.fDiscard))) else (bif a0.fDiscard then (some ((a0.fHops.length : Int) == 0)) else ((gc ((a0.fHops.length : Int) == 1) (M.ref15_hops a0.fHops true)).bind fun r3 => some (((a0.fHops.length : Int) == 1) && r3))))
noncomputable def M.ref15_validLinkState (a0 : TRoute) : Option Bool :=
  (M.ref15_within a0.fClass 1 4).bind fun r1 => (gc (!(!r1)) (M.ref15_within a0.fAdmin 1 255)).bind fun r2 => (gc (!((!r1) || (!r2))) (M.ref15_within a0.fMetric 0 1073741824)).bind fun r3 => (gc (!(((!r1) || (!r2)) || (!r3))) (M.ref15_plain a0 true false false)).bind fun r4 => bif (((!r1) || (!r2)) || (!r3)) || (!r4) then (some false) else ((M.ref15_within a0.fInner 0 1073741824).bind fun r5 => bif (!r5) || ((a0.fClass != 4) && (a0.fInner != 0)) then (some false) else (bif a0.fDiscard then (some ((((a0.fClass == 1) && (a0.fMetric == 0)) && (a0.fTag == 0)) && ((a0.fHops.length : Int) == 0))) else ((gc (decide ((a0.fHops.length : Int) > 0)) (M.ref15_hops a0.fHops false)).bind fun r6 => some ((decide ((a0.fHops.length : Int) > 0)) && r6))))
noncomputable def M.ref15_validDistance (a0 : TRoute) : Option Bool :=
  (M.ref15_within a0.fAdmin 1 255).bind fun r1 => (gc (!(!r1)) (M.ref15_within a0.fMetric 1 15)).bind fun r2 => (gc (!((!r1) || (!r2))) (M.ref15_plain a0 false false false)).bind fun r3 => bif (((!r1) || (!r2)) || (!r3)) || a0.fDiscard then (some false) else (bif a0.fClass == 1 then ((gc (((a0.fMetric == 1) && (a0.fTag == 0)) && ((a0.fHops.length : Int) == 1)) (M.ref15_hops a0.fHops true)).bind fun r4 => some ((((a0.fMetric == 1) && (a0.fTag == 0)) && ((a0.fHops.length : Int) == 1)) && r4)) else (bif a0.fClass == 2 then (some ((a0.fHops.length : Int) == 0)) else (bif a0.fClass == 3 then ((gc (decide ((a0.fHops.length : Int) > 0)) (M.ref15_hops a0.fHops false)).bind fun r5 => some ((decide ((a0.fHops.length : Int) > 0)) && r5)) else (some false))))
noncomputable def M.ref15_validPath_k2 (a0 : TRoute) (p6 : Bool) : Option Bool :=
  bif p6 then ((gc ((((a0.fClass == 4) || (decide ((a0.fPath.length : Int) > 0))) && (a0.fFrom != 0)) && ((a0.fHops.length : Int) == 1)) (M.ref15_hops a0.fHops false)).bind fun r7 => gd [guardB (((((a0.fClass == 4) || (decide ((a0.fPath.length : Int) > 0))) && (a0.fFrom != 0)) && ((a0.fHops.length : Int) == 1)) && r7) (decide (0 ≤ 0)), guardB (((((a0.fClass == 4) || (decide ((a0.fPath.length : Int) > 0))) && (a0.fFrom != 0)) && ((a0.fHops.length : Int) == 1)) && r7) (decide (0 < (a0.fHops.length : Int)))] (some (((((((a0.fClass == 4) || (decide ((a0.fPath.length : Int) > 0))) && (a0.fFrom != 0)) && ((a0.fHops.length : Int) == 1)) && r7) && (((a0.fHops.getD (0 : Int).toNat default).fAddr) == a0.fFrom)) && (!a0.fDiscard)))) else (some false)
noncomputable def M.ref15_validPath_k1 (a0 : TRoute) (p5 : Bool) : Option Bool :=
  bif p5 then (some (((((a0.fPath.length : Int) == 0) && (a0.fFrom == 0)) && ((a0.fHops.length : Int) == 0)) && (a0.fDiscard == (a0.fClass == 2)))) else (bif a0.fClass == 3 then (M.ref15_validPath_k2 a0 (a0.fClass == 3)) else (M.ref15_validPath_k2 a0 (a0.fClass == 4)))
noncomputable def M.ref15_validPath (a0 : TRoute) : Option Bool :=
  (M.ref15_within a0.fAdmin 1 255).bind fun r1 => (gc (!(!r1)) (M.ref15_within a0.fMetric 0 16777215)).bind fun r2 => (gc (!((!r1) || (!r2))) (M.ref15_within a0.fPref 0 1000000)).bind fun r3 => (gc (!(((!r1) || (!r2)) || (!r3))) (M.ref15_plain a0 false true false)).bind fun r4 => bif (((!r1) || (!r2)) || (!r3)) || (!r4) then (some false) else (bif a0.fClass == 1 then (M.ref15_validPath_k1 a0 (a0.fClass == 1)) else (M.ref15_validPath_k1 a0 (a0.fClass == 2)))
noncomputable def M.ref15_Valid_l1 (a0 : TRoute) (p3 : Int) : Option (Int ⊕ (Unit ⊕ Bool)) :=
  bif decide (p3 < (a0.fPath.length : Int)) then ((M.ref15_within (a0.fPath.getD p3.toNat default) 1 65535).bind fun r5 => gd [decide (0 ≤ p3), decide (p3 < (a0.fPath.length : Int))] (bif !r5 then (some (.inr (.inr false))) else (some (.inl (wr .i64 (p3 + 1)))))) else (some (.inr (.inl ())))
noncomputable def M.ref15_Valid (a0 : TRoute) : Option Bool :=
  (M.ref4_Valid a0.fPrefix).bind fun r1 => (gc (!(!r1)) (M.ref15_within a0.fTag 0 65535)).bind fun r2 => bif ((!r1) || (!r2)) || (decide ((a0.fPath.length : Int) > 64)) then (some false) else ((loopM (M.ref15_Valid_l1 a0) 0).bind fun y6 => Sum.elim (fun _ => bif a0.fProto == 1 then ((gc ((((a0.fClass == 0) && (a0.fAdmin == 0)) && (a0.fMetric == 0)) && (a0.fTag == 0)) (M.ref15_plain a0 false false false)).bind fun r9 => (gc (((((((a0.fClass == 0) && (a0.fAdmin == 0)) && (a0.fMetric == 0)) && (a0.fTag == 0)) && r9) && (!a0.fDiscard)) && ((a0.fHops.length : Int) == 1)) (M.ref15_hops a0.fHops true)).bind fun r10 => some ((((((((a0.fClass == 0) && (a0.fAdmin == 0)) && (a0.fMetric == 0)) && (a0.fTag == 0)) && r9) && (!a0.fDiscard)) && ((a0.fHops.length : Int) == 1)) && r10)) else (bif a0.fProto == 2 then ((M.ref15_validStatic a0).bind fun r11 => some r11) else (bif a0.fProto == 3 then ((M.ref15_validLinkState a0).bind fun r12 => some r12) else (bif a0.fProto == 4 then ((M.ref15_validDistance a0).bind fun r13 => some r13) else (bif a0.fProto == 5 then ((M.ref15_validPath a0).bind fun r14 => some r14) else (some false)))))) (fun y8 => some y8) y6)
noncomputable def M.ref4_Compare (a0 : TPrefix) (a1 : TPrefix) : Option Int :=
  bif (decide (a0.fAddr < a1.fAddr)) || ((a0.fAddr == a1.fAddr) && (decide (a0.fLen < a1.fLen))) then (some (-1)) else (bif ((a0.fAddr == a1.fAddr) && ((a0.fLen == a1.fLen) && true)) then (some 0) else (some 1))
noncomputable def M.ref15_Table_l1 (a0 : List TRoute) (a1 : Int) (p1 : Int) : Option (Int ⊕ (Unit ⊕ Bool)) :=
  bif decide (p1 < (a0.length : Int)) then ((M.ref15_Valid (a0.getD p1.toNat default)).bind fun r3 => (gc ((!((!r3) || ((a1 != 0) && (((a0.getD p1.toNat default).fProto) != a1)))) && (decide (p1 > 0))) (M.ref4_Compare ((a0.getD (wr .i64 (p1 - 1)).toNat default).fPrefix) ((a0.getD p1.toNat default).fPrefix))).bind fun r4 => gd [decide (0 ≤ p1), decide (p1 < (a0.length : Int)), guardB ((!(!r3)) && (a1 != 0)) (decide (0 ≤ p1)), guardB ((!(!r3)) && (a1 != 0)) (decide (p1 < (a0.length : Int))), guardB ((!((!r3) || ((a1 != 0) && (((a0.getD p1.toNat default).fProto) != a1)))) && (decide (p1 > 0))) (decide (0 ≤ (wr .i64 (p1 - 1)))), guardB ((!((!r3) || ((a1 != 0) && (((a0.getD p1.toNat default).fProto) != a1)))) && (decide (p1 > 0))) (decide ((wr .i64 (p1 - 1)) < (a0.length : Int))), guardB ((!((!r3) || ((a1 != 0) && (((a0.getD p1.toNat default).fProto) != a1)))) && (decide (p1 > 0))) (decide (0 ≤ p1)), guardB ((!((!r3) || ((a1 != 0) && (((a0.getD p1.toNat default).fProto) != a1)))) && (decide (p1 > 0))) (decide (p1 < (a0.length : Int)))] (bif ((!r3) || ((a1 != 0) && (((a0.getD p1.toNat default).fProto) != a1))) || ((decide (p1 > 0)) && (decide (r4 ≥ 0))) then (some (.inr (.inr false))) else (some (.inl (wr .i64 (p1 + 1)))))) else (some (.inr (.inl ())))
noncomputable def M.ref15_Table (a0 : List TRoute) (a1 : Int) : Option Bool :=
  (loopM (M.ref15_Table_l1 a0 a1) 0).bind fun y5 => Sum.elim (fun _ => some true) (fun y7 => some y7) y5
noncomputable def M.law19_into (a0 : TRouter) (a1 : Int) : Option (List TRedist) :=
  bif a1 == 3 then (some a0.fLS.fRedist) else (bif a1 == 4 then (some a0.fDV.fRedist) else (some a0.fPV.fRedist))
noncomputable def M.model_RouteMap_1 (a0 : TRouteMap) (b0 : ByteArray) : Option Bool :=
  some (strEq a0.fName b0)
noncomputable def M.slices_IndexFunc_api_RouteMap_api_RouteMap__model_RouteMap_1_l1 (a0 : List TRouteMap) (a1c0 : ByteArray) (p1 : Int) : Option (Int ⊕ (Unit ⊕ Int)) :=
  bif decide (p1 < (a0.length : Int)) then ((M.model_RouteMap_1 (a0.getD p1.toNat default) a1c0).bind fun r3 => gd [decide (0 ≤ p1), decide (p1 < (a0.length : Int))] (bif r3 then (some (.inr (.inr p1))) else (some (.inl (wr .i64 (p1 + 1)))))) else (some (.inr (.inl ())))
noncomputable def M.slices_IndexFunc_api_RouteMap_api_RouteMap__model_RouteMap_1 (a0 : List TRouteMap) (a1c0 : ByteArray) : Option Int :=
  (loopM (M.slices_IndexFunc_api_RouteMap_api_RouteMap__model_RouteMap_1_l1 a0 a1c0) 0).bind fun y4 => Sum.elim (fun _ => some (-1)) (fun y6 => some y6) y4
noncomputable def M.model_RouteMap (a0 : TRouter) (a1 : ByteArray) : Option Int :=
  (M.slices_IndexFunc_api_RouteMap_api_RouteMap__model_RouteMap_1 a0.fMaps a1).bind fun r1 => some r1
noncomputable def M.model_PrefixList_1 (a0 : TPrefixList) (b0 : ByteArray) : Option Bool :=
  some (strEq a0.fName b0)
noncomputable def M.slices_IndexFunc_api_PrefixList_api_PrefixList__model_PrefixList_1_l1 (a0 : List TPrefixList) (a1c0 : ByteArray) (p1 : Int) : Option (Int ⊕ (Unit ⊕ Int)) :=
  bif decide (p1 < (a0.length : Int)) then ((M.model_PrefixList_1 (a0.getD p1.toNat default) a1c0).bind fun r3 => gd [decide (0 ≤ p1), decide (p1 < (a0.length : Int))] (bif r3 then (some (.inr (.inr p1))) else (some (.inl (wr .i64 (p1 + 1)))))) else (some (.inr (.inl ())))
noncomputable def M.slices_IndexFunc_api_PrefixList_api_PrefixList__model_PrefixList_1 (a0 : List TPrefixList) (a1c0 : ByteArray) : Option Int :=
  (loopM (M.slices_IndexFunc_api_PrefixList_api_PrefixList__model_PrefixList_1_l1 a0 a1c0) 0).bind fun y4 => Sum.elim (fun _ => some (-1)) (fun y6 => some y6) y4
noncomputable def M.model_PrefixList (a0 : TRouter) (a1 : ByteArray) : Option Int :=
  (M.slices_IndexFunc_api_PrefixList_api_PrefixList__model_PrefixList_1 a0.fLists a1).bind fun r1 => some r1
noncomputable def M.addr_clamp (a0 : Int) : Option Int :=
  some (if (if 32 < a0 then 32 else a0) > 0 then (if 32 < a0 then 32 else a0) else 0)
noncomputable def M.addr_Mask (a0 : Int) : Option Int :=
  (M.addr_clamp a0).bind fun r1 => gd [decide (0 ≤ (wr .i64 (32 - r1)))] (some (wr .u32 (4294967295 * 2 ^ min (wr .i64 (32 - r1)).toNat 32)))
noncomputable def M.addr_Contains (a0 : TPrefix) (a1 : Int) : Option Bool :=
  (M.addr_Mask a0.fLen).bind fun r1 => some ((bitD .and .u32 a1 r1) == a0.fAddr)
noncomputable def M.addr_Covers (a0 : TPrefix) (a1 : TPrefix) : Option Bool :=
  (gc (decide (a0.fLen ≤ a1.fLen)) (M.addr_Contains a0 a1.fAddr)).bind fun r1 => some ((decide (a0.fLen ≤ a1.fLen)) && r1)
noncomputable def M.policy_Matches (a0 : TPrefixRule) (a1 : TPrefix) : Option Bool :=
  (M.addr_Covers a0.fPrefix a1).bind fun r1 => some ((r1 && (decide (a0.fMin ≤ a1.fLen))) && (decide (a1.fLen ≤ a0.fMax)))
noncomputable def M.policy_First_l1 (a0 : TPrefixList) (a1 : TPrefix) (p1 : Int) : Option (Int ⊕ (Unit ⊕ Int)) :=
  bif decide (p1 < (a0.fRules.length : Int)) then (gd [decide (0 ≤ p1), decide (p1 < (a0.fRules.length : Int))] ((M.policy_Matches (a0.fRules.getD p1.toNat default) a1).bind fun r3 => bif r3 then (some (.inr (.inr p1))) else (some (.inl (wr .i64 (p1 + 1)))))) else (some (.inr (.inl ())))
noncomputable def M.policy_First (a0 : TPrefixList) (a1 : TPrefix) : Option Int :=
  (loopM (M.policy_First_l1 a0 a1) 0).bind fun y4 => Sum.elim (fun _ => some (-1)) (fun y6 => some y6) y4
noncomputable def M.policy_Permits (a0 : TRouter) (a1 : ByteArray) (a2 : TPrefix) : Option Bool :=
  bif strEq a1 (⟨#[]⟩ : ByteArray) then (some true) else ((M.model_PrefixList a0 a1).bind fun r1 => bif decide (r1 < 0) then (some false) else ((M.policy_First (a0.fLists.getD r1.toNat default) a2).bind fun r2 => gd [decide (0 ≤ r1), decide (r1 < (a0.fLists.length : Int))] (gd [guardB (decide (r2 ≥ 0)) (decide (0 ≤ r1)), guardB (decide (r2 ≥ 0)) (decide (r1 < (a0.fLists.length : Int))), guardB (decide (r2 ≥ 0)) (decide (0 ≤ r2)), guardB (decide (r2 ≥ 0)) (decide (r2 < (((a0.fLists.getD r1.toNat default).fRules).length : Int)))] (some ((decide (r2 ≥ 0)) && ((((a0.fLists.getD r1.toNat default).fRules).getD r2.toNat default).fPermit))))))
noncomputable def M.policy_Clause_l1 (a0 : TRouter) (a2 : TRoute) (r1 : Int) (p2 : Int) : Option (Int ⊕ (Unit ⊕ Int)) :=
  bif decide (p2 < (((a0.fMaps.getD r1.toNat default).fClauses).length : Int)) then (gd [decide (0 ≤ p2), decide (p2 < (((a0.fMaps.getD r1.toNat default).fClauses).length : Int))] ((M.policy_Permits a0 ((((a0.fMaps.getD r1.toNat default).fClauses).getD p2.toNat default).fList) a2.fPrefix).bind fun r4 => bif r4 && ((((((a0.fMaps.getD r1.toNat default).fClauses).getD p2.toNat default).fTag) == (-1)) || (((((a0.fMaps.getD r1.toNat default).fClauses).getD p2.toNat default).fTag) == a2.fTag)) then (some (.inr (.inr p2))) else (some (.inl (wr .i64 (p2 + 1)))))) else (some (.inr (.inl ())))
noncomputable def M.policy_Clause (a0 : TRouter) (a1 : ByteArray) (a2 : TRoute) : Option Int :=
  (M.model_RouteMap a0 a1).bind fun r1 => bif decide (r1 < 0) then (some (-1)) else (gd [decide (0 ≤ r1), decide (r1 < (a0.fMaps.length : Int))] ((loopM (M.policy_Clause_l1 a0 a2 r1) 0).bind fun y5 => Sum.elim (fun _ => some (-1)) (fun y7 => some y7) y5))
noncomputable def M.rib_values_k2 (a0 : TRouter) (r1 : Int) (r2 : Int) (p3 : Int) (p4 : Int) : Option (Int × Int × Bool) :=
  some (p3, p4, (((a0.fMaps.getD r1.toNat default).fClauses).getD r2.toNat default).fPermit)
noncomputable def M.rib_values_k1 (a0 : TRouter) (a1 : TRedist) (r1 : Int) (r2 : Int) (p3 : Int) : Option (Int × Int × Bool) :=
  bif ((((a0.fMaps.getD r1.toNat default).fClauses).getD r2.toNat default).fSetTag) != (-1) then (M.rib_values_k2 a0 r1 r2 p3 ((((a0.fMaps.getD r1.toNat default).fClauses).getD r2.toNat default).fSetTag)) else (M.rib_values_k2 a0 r1 r2 p3 a1.fTag)
noncomputable def M.rib_values (a0 : TRouter) (a1 : TRedist) (a2 : TRoute) : Option (Int × Int × Bool) :=
  bif strEq a1.fMap (⟨#[]⟩ : ByteArray) then (some (a1.fMetric, a1.fTag, true)) else ((M.model_RouteMap a0 a1.fMap).bind fun r1 => (M.policy_Clause a0 a1.fMap a2).bind fun r2 => gd [guardB (!(((decide (r1 < 0)) || (decide (r1 ≥ (a0.fMaps.length : Int)))) || (decide (r2 < 0)))) (decide (0 ≤ r1)), guardB (!(((decide (r1 < 0)) || (decide (r1 ≥ (a0.fMaps.length : Int)))) || (decide (r2 < 0)))) (decide (r1 < (a0.fMaps.length : Int)))] (bif (((decide (r1 < 0)) || (decide (r1 ≥ (a0.fMaps.length : Int)))) || (decide (r2 < 0))) || (decide (r2 ≥ (((a0.fMaps.getD r1.toNat default).fClauses).length : Int))) then (some (0, 0, false)) else (gd [decide (0 ≤ r1), decide (r1 < (a0.fMaps.length : Int)), decide (0 ≤ r2), decide (r2 < (((a0.fMaps.getD r1.toNat default).fClauses).length : Int))] (bif ((((a0.fMaps.getD r1.toNat default).fClauses).getD r2.toNat default).fSetMetric) != (-1) then (M.rib_values_k1 a0 a1 r1 r2 ((((a0.fMaps.getD r1.toNat default).fClauses).getD r2.toNat default).fSetMetric)) else (M.rib_values_k1 a0 a1 r1 r2 a1.fMetric)))))
noncomputable def M.rib_finish_k1 (a2 : TRoute) (p1 : (List TRoute)) : Option ((List TRoute) × Bool) :=
  gd [decide (p1.length = ([a2] : List TRoute).length)] (some (p1, true))
noncomputable def M.rib_finish (a0 : TRouter) (a1 : TRedist) (a2 : TRoute) : Option ((List TRoute) × Bool) :=
  bif a2.fProto == 3 then (bif a1.fType == 1 then (M.rib_finish_k1 a2 ([(⟨a2.fPrefix, a2.fProto, 3, a2.fAdmin, a2.fMetric, a2.fInner, a2.fTag, a2.fPref, a2.fPath, a2.fFrom, a2.fNext, a2.fHops, a2.fDiscard⟩ : TRoute)] : List TRoute)) else (M.rib_finish_k1 a2 ([(⟨a2.fPrefix, a2.fProto, 4, a2.fAdmin, a2.fMetric, a2.fInner, a2.fTag, a2.fPref, a2.fPath, a2.fFrom, a2.fNext, a2.fHops, a2.fDiscard⟩ : TRoute)] : List TRoute))) else (bif a2.fProto == 4 then (some (([(⟨a2.fPrefix, a2.fProto, 2, a0.fDV.fAdmin, a2.fMetric, a2.fInner, a2.fTag, a2.fPref, a2.fPath, a2.fFrom, a2.fNext, a2.fHops, a2.fDiscard⟩ : TRoute)] : List TRoute), (decide (a2.fMetric ≥ 1)) && (decide (a2.fMetric ≤ 15)))) else (bif a2.fProto == 5 then (some (([(⟨a2.fPrefix, a2.fProto, 1, a0.fPV.fInternal, a2.fMetric, a2.fInner, a2.fTag, 100, a2.fPath, a2.fFrom, a2.fNext, a2.fHops, a2.fDiscard⟩ : TRoute)] : List TRoute), true)) else (some (([a2] : List TRoute), false))))
noncomputable def M.rib_Redistribute_k1 (p1 : (List TRoute) × Int) (p3 : (List TRoute)) : Option (((List TRoute) × Int) ⊕ (List TRoute)) :=
  some (.inl (p3, wr .i64 (p1.2 + 1)))
noncomputable def M.rib_Redistribute_l2 (a1 : List TRedist) (a2 : List TRoute) (p1 : (List TRoute) × Int) (p4 : Int × Int) : Option ((Int × Int) ⊕ Int) :=
  bif decide (p4.2 < (a1.length : Int)) then (gd [decide (0 ≤ p4.2), decide (p4.2 < (a1.length : Int))] (bif ((a1.getD p4.2.toNat default).fFrom) == ((a2.getD p1.2.toNat default).fProto) then (some (.inr p4.2)) else (some (.inl (p4.1, wr .i64 (p4.2 + 1)))))) else (some (.inr p4.1))
noncomputable def M.rib_Redistribute_l1 (a0 : TRouter) (a1 : List TRedist) (a2 : List TRoute) (a3 : Int) (p1 : (List TRoute) × Int) : Option (((List TRoute) × Int) ⊕ (List TRoute)) :=
  bif decide (p1.2 < (a2.length : Int)) then (gd [decide (0 ≤ p1.2), decide (p1.2 < (a2.length : Int))] ((loopM (M.rib_Redistribute_l2 a1 a2 p1) ((-1), 0)).bind fun y6 => bif (decide (y6 < 0)) || (((a2.getD p1.2.toNat default).fDiscard) && (((a2.getD p1.2.toNat default).fProto) != 2)) then (M.rib_Redistribute_k1 p1 p1.1) else ((M.rib_values a0 (a1.getD y6.toNat default) (a2.getD p1.2.toNat default)).bind fun r7 => gd [decide (0 ≤ y6), decide (y6 < (a1.length : Int))] (bif !r7.2.2 then (M.rib_Redistribute_k1 p1 p1.1) else (gd [decide (0 ≤ y6), decide (y6 < (a1.length : Int))] ((M.rib_finish a0 (a1.getD y6.toNat default) (⟨(a2.getD p1.2.toNat default).fPrefix, a3, 0, 0, r7.1, 0, r7.2.1, 0, ([] : List Int), 0, 0, ([] : List THop), false⟩ : TRoute)).bind fun r8 => gd [decide (r8.1.length = ([(⟨(a2.getD p1.2.toNat default).fPrefix, a3, 0, 0, r7.1, 0, r7.2.1, 0, ([] : List Int), 0, 0, ([] : List THop), false⟩ : TRoute)] : List TRoute).length)] (bif r8.2 then (gd [decide ((p1.1.length + 1) * 136 ≤ 140737488355328)] (M.rib_Redistribute_k1 p1 (p1.1 ++ [r8.1.getD 0 default]))) else (M.rib_Redistribute_k1 p1 p1.1)))))))) else (some (.inr p1.1))
noncomputable def M.rib_Redistribute (a0 : TRouter) (a1 : List TRedist) (a2 : List TRoute) (a3 : Int) : Option (List TRoute) :=
  (loopM (M.rib_Redistribute_l1 a0 a1 a2 a3) (([] : List TRoute), 0)).bind fun y9 => some y9
noncomputable def M.slices_Clone_api_Route_api_Route (a0 : List TRoute) : Option (List TRoute) :=
  gd [decide (0 = 0) || decide (0 < a0.length), decide ((0 + a0.length) * 136 ≤ 140737488355328)] (some a0)
noncomputable def M.cmp_isNaN_uint32 (a0 : Int) : Option Bool :=
  some (a0 != a0)
noncomputable def M.cmp_Compare_uint32 (a0 : Int) (a1 : Int) : Option Int :=
  (M.cmp_isNaN_uint32 a0).bind fun r1 => (M.cmp_isNaN_uint32 a1).bind fun r2 => bif r1 then (bif r2 then (some 0) else (some (-1))) else (bif r2 then (some 1) else (bif decide (a0 < a1) then (some (-1)) else (bif decide (a0 > a1) then (some 1) else (some 0))))
noncomputable def M.cmp_isNaN_int (a0 : Int) : Option Bool :=
  some (a0 != a0)
noncomputable def M.cmp_Compare_int (a0 : Int) (a1 : Int) : Option Int :=
  (M.cmp_isNaN_int a0).bind fun r1 => (M.cmp_isNaN_int a1).bind fun r2 => bif r1 then (bif r2 then (some 0) else (some (-1))) else (bif r2 then (some 1) else (bif decide (a0 < a1) then (some (-1)) else (bif decide (a0 > a1) then (some 1) else (some 0))))
noncomputable def M.addr_Compare (a0 : TPrefix) (a1 : TPrefix) : Option Int :=
  (M.cmp_Compare_uint32 a0.fAddr a1.fAddr).bind fun r1 => bif r1 != 0 then (some r1) else ((M.cmp_Compare_int a0.fLen a1.fLen).bind fun r2 => some r2)
noncomputable def M.rib_Select_1 (a0 : TRoute) (a1 : TRoute) : Option Int :=
  (M.addr_Compare a0.fPrefix a1.fPrefix).bind fun r1 => some r1
noncomputable def M.slices_insertionSortCmpFunc_api_Route__rib_Select_1_l2 (a1 : Int) (p3 : (List TRoute) × Int) : Option (((List TRoute) × Int) ⊕ (List TRoute)) :=
  (gc (decide (p3.2 > a1)) (M.rib_Select_1 (p3.1.getD (0 + p3.2.toNat) default) (p3.1.getD (0 + (wr .i64 (p3.2 - 1)).toNat) default))).bind fun r5 => gd [guardB (decide (p3.2 > a1)) (decide (0 ≤ p3.2)), guardB (decide (p3.2 > a1)) (decide (p3.2 < (p3.1.length : Int))), guardB (decide (p3.2 > a1)) (decide (0 ≤ (wr .i64 (p3.2 - 1)))), guardB (decide (p3.2 > a1)) (decide ((wr .i64 (p3.2 - 1)) < (p3.1.length : Int)))] (bif (decide (p3.2 > a1)) && (decide (r5 < 0)) then (gd [decide (0 ≤ (wr .i64 (p3.2 - 1))), decide ((wr .i64 (p3.2 - 1)) < (p3.1.length : Int)), decide (0 ≤ p3.2), decide (p3.2 < (p3.1.length : Int)), decide (0 ≤ p3.2), decide (p3.2 < (p3.1.length : Int)), decide (0 ≤ (wr .i64 (p3.2 - 1))), decide ((wr .i64 (p3.2 - 1)) < (p3.1.length : Int))] (some (.inl ((p3.1.set (0 + p3.2.toNat) (p3.1.getD (0 + (wr .i64 (p3.2 - 1)).toNat) default)).set (0 + (wr .i64 (p3.2 - 1)).toNat) (p3.1.getD (0 + p3.2.toNat) default), wr .i64 (p3.2 - 1))))) else (some (.inr p3.1)))
noncomputable def M.slices_insertionSortCmpFunc_api_Route__rib_Select_1_l1 (a1 : Int) (a2 : Int) (p1 : (List TRoute) × Int) : Option (((List TRoute) × Int) ⊕ (List TRoute)) :=
  bif decide (p1.2 < a2) then ((loopM (M.slices_insertionSortCmpFunc_api_Route__rib_Select_1_l2 a1) (p1.1, p1.2)).bind fun y6 => some (.inl (y6, wr .i64 (p1.2 + 1)))) else (some (.inr p1.1))
noncomputable def M.slices_insertionSortCmpFunc_api_Route__rib_Select_1 (a0 : List TRoute) (a1 : Int) (a2 : Int) : Option (List TRoute) :=
  (loopM (M.slices_insertionSortCmpFunc_api_Route__rib_Select_1_l1 a1 a2) (a0, wr .i64 (a1 + 1))).bind fun y7 => gd [decide (y7.length = a0.length)] (some y7)
noncomputable def M.slices_swapRangeCmpFunc_api_Route__rib_Select_1_l1 (a1 : Int) (a2 : Int) (a3 : Int) (p1 : (List TRoute) × Int) : Option (((List TRoute) × Int) ⊕ (List TRoute)) :=
  bif decide (p1.2 < a3) then (gd [decide (0 ≤ (wr .i64 (a2 + p1.2))), decide ((wr .i64 (a2 + p1.2)) < (p1.1.length : Int)), decide (0 ≤ (wr .i64 (a1 + p1.2))), decide ((wr .i64 (a1 + p1.2)) < (p1.1.length : Int)), decide (0 ≤ (wr .i64 (a1 + p1.2))), decide ((wr .i64 (a1 + p1.2)) < (p1.1.length : Int)), decide (0 ≤ (wr .i64 (a2 + p1.2))), decide ((wr .i64 (a2 + p1.2)) < (p1.1.length : Int))] (some (.inl ((p1.1.set (0 + (wr .i64 (a1 + p1.2)).toNat) (p1.1.getD (0 + (wr .i64 (a2 + p1.2)).toNat) default)).set (0 + (wr .i64 (a2 + p1.2)).toNat) (p1.1.getD (0 + (wr .i64 (a1 + p1.2)).toNat) default), wr .i64 (p1.2 + 1))))) else (some (.inr p1.1))
noncomputable def M.slices_swapRangeCmpFunc_api_Route__rib_Select_1 (a0 : List TRoute) (a1 : Int) (a2 : Int) (a3 : Int) : Option (List TRoute) :=
  (loopM (M.slices_swapRangeCmpFunc_api_Route__rib_Select_1_l1 a1 a2 a3) (a0, 0)).bind fun y3 => gd [decide (y3.length = a0.length)] (some y3)
noncomputable def M.slices_rotateCmpFunc_api_Route__rib_Select_1_l1 (a2 : Int) (p1 : (List TRoute) × Int × Int) : Option (((List TRoute) × Int × Int) ⊕ (Int × (List TRoute))) :=
  bif p1.2.1 != p1.2.2 then (bif decide (p1.2.1 > p1.2.2) then ((M.slices_swapRangeCmpFunc_api_Route__rib_Select_1 p1.1 (wr .i64 (a2 - p1.2.1)) a2 p1.2.2).bind fun r3 => gd [decide (r3.length = p1.1.length)] (some (.inl (r3, wr .i64 (p1.2.1 - p1.2.2), p1.2.2)))) else ((M.slices_swapRangeCmpFunc_api_Route__rib_Select_1 p1.1 (wr .i64 (a2 - p1.2.1)) (wr .i64 ((wr .i64 (a2 + p1.2.2)) - p1.2.1)) p1.2.1).bind fun r4 => gd [decide (r4.length = p1.1.length)] (some (.inl (r4, p1.2.1, wr .i64 (p1.2.2 - p1.2.1)))))) else (some (.inr (p1.2.1, p1.1)))
noncomputable def M.slices_rotateCmpFunc_api_Route__rib_Select_1 (a0 : List TRoute) (a1 : Int) (a2 : Int) (a3 : Int) : Option (List TRoute) :=
  (loopM (M.slices_rotateCmpFunc_api_Route__rib_Select_1_l1 a2) (a0, wr .i64 (a2 - a1), wr .i64 (a3 - a2))).bind fun y5 => (M.slices_swapRangeCmpFunc_api_Route__rib_Select_1 y5.2 (wr .i64 (a2 - y5.1)) a2 y5.1).bind fun r6 => gd [decide (r6.length = y5.2.length)] (gd [decide (r6.length = a0.length)] (some r6))
noncomputable def M.slices_symMergeCmpFunc_api_Route__rib_Select_1_l1 (a0 : List TRoute) (a1 : Int) (p1 : Int × Int) : Option ((Int × Int) ⊕ Int) :=
  bif decide (p1.1 < p1.2) then (gd [decide (0 ≤ 1)] ((M.rib_Select_1 (a0.getD (0 + (wr .i64 ((wr .u64 (wr .i64 (p1.1 + p1.2))).fdiv (2 ^ min (1 : Int).toNat 64))).toNat) default) (a0.getD (0 + a1.toNat) default)).bind fun r3 => gd [decide (0 ≤ (wr .i64 ((wr .u64 (wr .i64 (p1.1 + p1.2))).fdiv (2 ^ min (1 : Int).toNat 64)))), decide ((wr .i64 ((wr .u64 (wr .i64 (p1.1 + p1.2))).fdiv (2 ^ min (1 : Int).toNat 64))) < (a0.length : Int)), decide (0 ≤ a1), decide (a1 < (a0.length : Int))] (bif decide (r3 < 0) then (some (.inl (wr .i64 ((wr .i64 ((wr .u64 (wr .i64 (p1.1 + p1.2))).fdiv (2 ^ min (1 : Int).toNat 64))) + 1), p1.2))) else (some (.inl (p1.1, wr .i64 ((wr .u64 (wr .i64 (p1.1 + p1.2))).fdiv (2 ^ min (1 : Int).toNat 64)))))))) else (some (.inr p1.1))
noncomputable def M.slices_symMergeCmpFunc_api_Route__rib_Select_1_l2 (y4 : Int) (p5 : (List TRoute) × Int) : Option (((List TRoute) × Int) ⊕ (List TRoute)) :=
  bif decide (p5.2 < (wr .i64 (y4 - 1))) then (gd [decide (0 ≤ (wr .i64 (p5.2 + 1))), decide ((wr .i64 (p5.2 + 1)) < (p5.1.length : Int)), decide (0 ≤ p5.2), decide (p5.2 < (p5.1.length : Int)), decide (0 ≤ p5.2), decide (p5.2 < (p5.1.length : Int)), decide (0 ≤ (wr .i64 (p5.2 + 1))), decide ((wr .i64 (p5.2 + 1)) < (p5.1.length : Int))] (some (.inl ((p5.1.set (0 + p5.2.toNat) (p5.1.getD (0 + (wr .i64 (p5.2 + 1)).toNat) default)).set (0 + (wr .i64 (p5.2 + 1)).toNat) (p5.1.getD (0 + p5.2.toNat) default), wr .i64 (p5.2 + 1))))) else (some (.inr p5.1))
noncomputable def M.slices_symMergeCmpFunc_api_Route__rib_Select_1_l3 (a0 : List TRoute) (a2 : Int) (p8 : Int × Int) : Option ((Int × Int) ⊕ Int) :=
  bif decide (p8.1 < p8.2) then (gd [decide (0 ≤ 1)] ((M.rib_Select_1 (a0.getD (0 + a2.toNat) default) (a0.getD (0 + (wr .i64 ((wr .u64 (wr .i64 (p8.1 + p8.2))).fdiv (2 ^ min (1 : Int).toNat 64))).toNat) default)).bind fun r10 => gd [decide (0 ≤ a2), decide (a2 < (a0.length : Int)), decide (0 ≤ (wr .i64 ((wr .u64 (wr .i64 (p8.1 + p8.2))).fdiv (2 ^ min (1 : Int).toNat 64)))), decide ((wr .i64 ((wr .u64 (wr .i64 (p8.1 + p8.2))).fdiv (2 ^ min (1 : Int).toNat 64))) < (a0.length : Int))] (bif !(decide (r10 < 0)) then (some (.inl (wr .i64 ((wr .i64 ((wr .u64 (wr .i64 (p8.1 + p8.2))).fdiv (2 ^ min (1 : Int).toNat 64))) + 1), p8.2))) else (some (.inl (p8.1, wr .i64 ((wr .u64 (wr .i64 (p8.1 + p8.2))).fdiv (2 ^ min (1 : Int).toNat 64)))))))) else (some (.inr p8.1))
noncomputable def M.slices_symMergeCmpFunc_api_Route__rib_Select_1_l4 (y11 : Int) (p12 : (List TRoute) × Int) : Option (((List TRoute) × Int) ⊕ (List TRoute)) :=
  bif decide (p12.2 > y11) then (gd [decide (0 ≤ (wr .i64 (p12.2 - 1))), decide ((wr .i64 (p12.2 - 1)) < (p12.1.length : Int)), decide (0 ≤ p12.2), decide (p12.2 < (p12.1.length : Int)), decide (0 ≤ p12.2), decide (p12.2 < (p12.1.length : Int)), decide (0 ≤ (wr .i64 (p12.2 - 1))), decide ((wr .i64 (p12.2 - 1)) < (p12.1.length : Int))] (some (.inl ((p12.1.set (0 + p12.2.toNat) (p12.1.getD (0 + (wr .i64 (p12.2 - 1)).toNat) default)).set (0 + (wr .i64 (p12.2 - 1)).toNat) (p12.1.getD (0 + p12.2.toNat) default), wr .i64 (p12.2 - 1))))) else (some (.inr p12.1))
noncomputable def M.slices_symMergeCmpFunc_api_Route__rib_Select_1_l5 (a0 : List TRoute) (a1 : Int) (a2 : Int) (a3 : Int) (p16 : Int × Int) : Option ((Int × Int) ⊕ Int) :=
  bif decide (p16.1 < p16.2) then (gd [decide (0 ≤ 1)] ((M.rib_Select_1 (a0.getD (0 + (wr .i64 ((wr .i64 ((wr .i64 ((wr .i64 ((wr .u64 (wr .i64 (a1 + a3))).fdiv (2 ^ min (1 : Int).toNat 64))) + a2)) - 1)) - (wr .i64 ((wr .u64 (wr .i64 (p16.1 + p16.2))).fdiv (2 ^ min (1 : Int).toNat 64))))).toNat) default) (a0.getD (0 + (wr .i64 ((wr .u64 (wr .i64 (p16.1 + p16.2))).fdiv (2 ^ min (1 : Int).toNat 64))).toNat) default)).bind fun r18 => gd [decide (0 ≤ (wr .i64 ((wr .i64 ((wr .i64 ((wr .i64 ((wr .u64 (wr .i64 (a1 + a3))).fdiv (2 ^ min (1 : Int).toNat 64))) + a2)) - 1)) - (wr .i64 ((wr .u64 (wr .i64 (p16.1 + p16.2))).fdiv (2 ^ min (1 : Int).toNat 64)))))), decide ((wr .i64 ((wr .i64 ((wr .i64 ((wr .i64 ((wr .u64 (wr .i64 (a1 + a3))).fdiv (2 ^ min (1 : Int).toNat 64))) + a2)) - 1)) - (wr .i64 ((wr .u64 (wr .i64 (p16.1 + p16.2))).fdiv (2 ^ min (1 : Int).toNat 64))))) < (a0.length : Int)), decide (0 ≤ (wr .i64 ((wr .u64 (wr .i64 (p16.1 + p16.2))).fdiv (2 ^ min (1 : Int).toNat 64)))), decide ((wr .i64 ((wr .u64 (wr .i64 (p16.1 + p16.2))).fdiv (2 ^ min (1 : Int).toNat 64))) < (a0.length : Int))] (bif !(decide (r18 < 0)) then (some (.inl (wr .i64 ((wr .i64 ((wr .u64 (wr .i64 (p16.1 + p16.2))).fdiv (2 ^ min (1 : Int).toNat 64))) + 1), p16.2))) else (some (.inl (p16.1, wr .i64 ((wr .u64 (wr .i64 (p16.1 + p16.2))).fdiv (2 ^ min (1 : Int).toNat 64)))))))) else (some (.inr p16.1))
noncomputable def M.slices_symMergeCmpFunc_api_Route__rib_Select_1_k3 (self : (List TRoute) → Int → Int → Int → Option (List TRoute)) (a0 : List TRoute) (a1 : Int) (a2 : Int) (a3 : Int) (y19 : Int) (p21 : (List TRoute)) : Option (List TRoute) :=
  bif (decide ((wr .i64 ((wr .u64 (wr .i64 (a1 + a3))).fdiv (2 ^ min (1 : Int).toNat 64))) < (wr .i64 ((wr .i64 ((wr .i64 ((wr .u64 (wr .i64 (a1 + a3))).fdiv (2 ^ min (1 : Int).toNat 64))) + a2)) - y19)))) && (decide ((wr .i64 ((wr .i64 ((wr .i64 ((wr .u64 (wr .i64 (a1 + a3))).fdiv (2 ^ min (1 : Int).toNat 64))) + a2)) - y19)) < a3)) then ((self p21 (wr .i64 ((wr .u64 (wr .i64 (a1 + a3))).fdiv (2 ^ min (1 : Int).toNat 64))) (wr .i64 ((wr .i64 ((wr .i64 ((wr .u64 (wr .i64 (a1 + a3))).fdiv (2 ^ min (1 : Int).toNat 64))) + a2)) - y19)) a3).bind fun r22 => gd [decide (r22.length = p21.length)] (gd [decide (r22.length = a0.length)] (some r22))) else (gd [decide (p21.length = a0.length)] (some p21))
noncomputable def M.slices_symMergeCmpFunc_api_Route__rib_Select_1_k2 (self : (List TRoute) → Int → Int → Int → Option (List TRoute)) (a0 : List TRoute) (a1 : Int) (a2 : Int) (a3 : Int) (y19 : Int) (p20 : (List TRoute)) : Option (List TRoute) :=
  bif (decide (a1 < y19)) && (decide (y19 < (wr .i64 ((wr .u64 (wr .i64 (a1 + a3))).fdiv (2 ^ min (1 : Int).toNat 64))))) then ((self p20 a1 y19 (wr .i64 ((wr .u64 (wr .i64 (a1 + a3))).fdiv (2 ^ min (1 : Int).toNat 64)))).bind fun r23 => gd [decide (r23.length = p20.length)] (M.slices_symMergeCmpFunc_api_Route__rib_Select_1_k3 self a0 a1 a2 a3 y19 r23)) else (M.slices_symMergeCmpFunc_api_Route__rib_Select_1_k3 self a0 a1 a2 a3 y19 p20)
noncomputable def M.slices_symMergeCmpFunc_api_Route__rib_Select_1_k1 (self : (List TRoute) → Int → Int → Int → Option (List TRoute)) (a0 : List TRoute) (a1 : Int) (a2 : Int) (a3 : Int) (p15 : Int × Int) : Option (List TRoute) :=
  (loopM (M.slices_symMergeCmpFunc_api_Route__rib_Select_1_l5 a0 a1 a2 a3) (p15.1, p15.2)).bind fun y19 => bif (decide (y19 < a2)) && (decide (a2 < (wr .i64 ((wr .i64 ((wr .i64 ((wr .u64 (wr .i64 (a1 + a3))).fdiv (2 ^ min (1 : Int).toNat 64))) + a2)) - y19)))) then ((M.slices_rotateCmpFunc_api_Route__rib_Select_1 a0 y19 a2 (wr .i64 ((wr .i64 ((wr .i64 ((wr .u64 (wr .i64 (a1 + a3))).fdiv (2 ^ min (1 : Int).toNat 64))) + a2)) - y19))).bind fun r24 => gd [decide (r24.length = a0.length)] (M.slices_symMergeCmpFunc_api_Route__rib_Select_1_k2 self a0 a1 a2 a3 y19 r24)) else (M.slices_symMergeCmpFunc_api_Route__rib_Select_1_k2 self a0 a1 a2 a3 y19 a0)
noncomputable def M.slices_symMergeCmpFunc_api_Route__rib_Select_1_b (self : (List TRoute) → Int → Int → Int → Option (List TRoute)) (a0 : List TRoute) (a1 : Int) (a2 : Int) (a3 : Int) : Option (List TRoute) :=
  bif (wr .i64 (a2 - a1)) == 1 then ((loopM (M.slices_symMergeCmpFunc_api_Route__rib_Select_1_l1 a0 a1) (a2, a3)).bind fun y4 => (loopM (M.slices_symMergeCmpFunc_api_Route__rib_Select_1_l2 y4) (a0, a1)).bind fun y7 => gd [decide (y7.length = a0.length)] (some y7)) else (bif (wr .i64 (a3 - a2)) == 1 then ((loopM (M.slices_symMergeCmpFunc_api_Route__rib_Select_1_l3 a0 a2) (a1, a2)).bind fun y11 => (loopM (M.slices_symMergeCmpFunc_api_Route__rib_Select_1_l4 y11) (a0, a2)).bind fun y14 => gd [decide (y14.length = a0.length)] (some y14)) else (gd [decide (0 ≤ 1)] (bif decide (a2 > (wr .i64 ((wr .u64 (wr .i64 (a1 + a3))).fdiv (2 ^ min (1 : Int).toNat 64)))) then (M.slices_symMergeCmpFunc_api_Route__rib_Select_1_k1 self a0 a1 a2 a3 (wr .i64 ((wr .i64 ((wr .i64 ((wr .u64 (wr .i64 (a1 + a3))).fdiv (2 ^ min (1 : Int).toNat 64))) + a2)) - a3), wr .i64 ((wr .u64 (wr .i64 (a1 + a3))).fdiv (2 ^ min (1 : Int).toNat 64)))) else (M.slices_symMergeCmpFunc_api_Route__rib_Select_1_k1 self a0 a1 a2 a3 (a1, a2)))))
noncomputable def M.slices_symMergeCmpFunc_api_Route__rib_Select_1_n : Nat → (List TRoute) → Int → Int → Int → Option (List TRoute)
  | 0 => fun _ _ _ _ => none
  | n + 1 => M.slices_symMergeCmpFunc_api_Route__rib_Select_1_b (M.slices_symMergeCmpFunc_api_Route__rib_Select_1_n n)
noncomputable def M.slices_symMergeCmpFunc_api_Route__rib_Select_1 (a0 : List TRoute) (a1 : Int) (a2 : Int) (a3 : Int) : Option (List TRoute) :=
  recM (fun n (x : (List TRoute) × Int × Int × Int) => M.slices_symMergeCmpFunc_api_Route__rib_Select_1_n n x.1 x.2.1 x.2.2.1 x.2.2.2) (a0, a1, a2, a3)
noncomputable def M.slices_stableCmpFunc_api_Route__rib_Select_1_l1 (a1 : Int) (p1 : (List TRoute) × Int × Int) : Option (((List TRoute) × Int × Int) ⊕ (Int × (List TRoute))) :=
  bif decide (p1.2.2 ≤ a1) then ((M.slices_insertionSortCmpFunc_api_Route__rib_Select_1 p1.1 p1.2.1 p1.2.2).bind fun r3 => gd [decide (r3.length = p1.1.length)] (some (.inl (r3, p1.2.2, wr .i64 (p1.2.2 + 20))))) else (some (.inr (p1.2.1, p1.1)))
noncomputable def M.slices_stableCmpFunc_api_Route__rib_Select_1_l3 (a1 : Int) (p6 : (List TRoute) × Int) (p8 : (List TRoute) × Int × Int) : Option (((List TRoute) × Int × Int) ⊕ (Int × (List TRoute))) :=
  bif decide (p8.2.2 ≤ a1) then ((M.slices_symMergeCmpFunc_api_Route__rib_Select_1 p8.1 p8.2.1 (wr .i64 (p8.2.1 + p6.2)) p8.2.2).bind fun r10 => gd [decide (r10.length = p8.1.length)] (some (.inl (r10, p8.2.2, wr .i64 (p8.2.2 + (wr .i64 (2 * p6.2))))))) else (some (.inr (p8.2.1, p8.1)))
noncomputable def M.slices_stableCmpFunc_api_Route__rib_Select_1_k1 (p6 : (List TRoute) × Int) (p12 : (List TRoute)) : Option (((List TRoute) × Int) ⊕ (List TRoute)) :=
  some (.inl (p12, wr .i64 (p6.2 * 2)))
noncomputable def M.slices_stableCmpFunc_api_Route__rib_Select_1_l2 (a1 : Int) (p6 : (List TRoute) × Int) : Option (((List TRoute) × Int) ⊕ (List TRoute)) :=
  bif decide (p6.2 < a1) then ((loopM (M.slices_stableCmpFunc_api_Route__rib_Select_1_l3 a1 p6) (p6.1, 0, wr .i64 (2 * p6.2))).bind fun y11 => bif decide ((wr .i64 (y11.1 + p6.2)) < a1) then ((M.slices_symMergeCmpFunc_api_Route__rib_Select_1 y11.2 y11.1 (wr .i64 (y11.1 + p6.2)) a1).bind fun r13 => gd [decide (r13.length = y11.2.length)] (M.slices_stableCmpFunc_api_Route__rib_Select_1_k1 p6 r13)) else (M.slices_stableCmpFunc_api_Route__rib_Select_1_k1 p6 y11.2)) else (some (.inr p6.1))
noncomputable def M.slices_stableCmpFunc_api_Route__rib_Select_1 (a0 : List TRoute) (a1 : Int) : Option (List TRoute) :=
  (loopM (M.slices_stableCmpFunc_api_Route__rib_Select_1_l1 a1) (a0, 0, 20)).bind fun y4 => (M.slices_insertionSortCmpFunc_api_Route__rib_Select_1 y4.2 y4.1 a1).bind fun r5 => gd [decide (r5.length = y4.2.length)] ((loopM (M.slices_stableCmpFunc_api_Route__rib_Select_1_l2 a1) (r5, 20)).bind fun y14 => gd [decide (y14.length = a0.length)] (some y14))
noncomputable def M.slices_SortStableFunc_api_Route_api_Route__rib_Select_1 (a0 : List TRoute) : Option (List TRoute) :=
  (M.slices_stableCmpFunc_api_Route__rib_Select_1 a0 (a0.length : Int)).bind fun r1 => gd [decide (r1.length = a0.length)] (gd [decide (r1.length = a0.length)] (some r1))
noncomputable def M.cmp_Or_int_l1 (a0 : List Int) (p1 : Int) : Option (Int ⊕ (Unit ⊕ Int)) :=
  bif decide (p1 < (a0.length : Int)) then (gd [decide (0 ≤ p1), decide (p1 < (a0.length : Int))] (bif (a0.getD p1.toNat default) != 0 then (some (.inr (.inr (a0.getD p1.toNat default)))) else (some (.inl (wr .i64 (p1 + 1)))))) else (some (.inr (.inl ())))
noncomputable def M.cmp_Or_int (a0 : List Int) : Option Int :=
  (loopM (M.cmp_Or_int_l1 a0) 0).bind fun y3 => Sum.elim (fun _ => some 0) (fun y5 => some y5) y3
noncomputable def M.route_origin (a0 : TRoute) : Option Int :=
  some (if 3 < a0.fClass then 3 else a0.fClass)
noncomputable def M.route_Prefer_k1 (a0 : TRoute) (a1 : TRoute) (p1 : Bool) : Option Int :=
  bif p1 then ((M.cmp_Compare_int a0.fAdmin a1.fAdmin).bind fun r2 => some r2) else (bif a0.fProto == 3 then ((M.cmp_Compare_int a0.fClass a1.fClass).bind fun r3 => (M.cmp_Compare_int a0.fMetric a1.fMetric).bind fun r4 => (M.cmp_Compare_int a0.fInner a1.fInner).bind fun r5 => (M.cmp_Compare_int a0.fTag a1.fTag).bind fun r6 => (M.cmp_Or_int ([r3, r4, r5, r6] : List Int)).bind fun r7 => some r7) else (bif a0.fProto == 4 then ((M.cmp_Compare_int a0.fMetric a1.fMetric).bind fun r8 => (M.cmp_Compare_int a0.fClass a1.fClass).bind fun r9 => (M.cmp_Compare_int a0.fTag a1.fTag).bind fun r10 => (M.cmp_Or_int ([r8, r9, r10] : List Int)).bind fun r11 => some r11) else (bif a0.fProto == 5 then ((M.route_origin a0).bind fun r12 => (M.route_origin a1).bind fun r13 => (M.cmp_Compare_int r12 r13).bind fun r14 => (M.cmp_Compare_int a1.fPref a0.fPref).bind fun r15 => (M.cmp_Compare_int (a0.fPath.length : Int) (a1.fPath.length : Int)).bind fun r16 => (M.cmp_Compare_int a0.fMetric a1.fMetric).bind fun r17 => (M.cmp_Compare_int a0.fClass a1.fClass).bind fun r18 => (M.cmp_Compare_uint32 a0.fFrom a1.fFrom).bind fun r19 => (M.cmp_Or_int ([r14, r15, r16, r17, r18, r19] : List Int)).bind fun r20 => some r20) else (some 0))))
noncomputable def M.route_Prefer (a0 : TRoute) (a1 : TRoute) : Option Int :=
  bif a0.fProto == 1 then (M.route_Prefer_k1 a0 a1 (a0.fProto == 1)) else (M.route_Prefer_k1 a0 a1 (a0.fProto == 2))
noncomputable def M.rib_Less (a0 : TRoute) (a1 : TRoute) : Option Bool :=
  (M.cmp_Compare_int a0.fAdmin a1.fAdmin).bind fun r1 => (M.cmp_Compare_int a0.fProto a1.fProto).bind fun r2 => (M.route_Prefer a0 a1).bind fun r3 => (M.cmp_Or_int ([r1, r2, r3] : List Int)).bind fun r4 => some (decide (r4 < 0))
noncomputable def M.slices_Clone_int_int (a0 : List Int) : Option (List Int) :=
  gd [decide (0 = 0) || decide (0 < a0.length), decide ((0 + a0.length) * 8 ≤ 140737488355328)] (some a0)
noncomputable def M.slices_Clone_api_Hop_api_Hop (a0 : List THop) : Option (List THop) :=
  gd [decide (0 = 0) || decide (0 < a0.length), decide ((0 + a0.length) * 16 ≤ 140737488355328)] (some a0)
noncomputable def M.rib_clone (a0 : TRoute) : Option TRoute :=
  (M.slices_Clone_int_int a0.fPath).bind fun r1 => (M.slices_Clone_api_Hop_api_Hop a0.fHops).bind fun r2 => some (⟨a0.fPrefix, a0.fProto, a0.fClass, a0.fAdmin, a0.fMetric, a0.fInner, a0.fTag, a0.fPref, r1, a0.fFrom, a0.fNext, r2, a0.fDiscard⟩ : TRoute)
noncomputable def M.rib_Select_k1 (p3 : (List TRoute) × Int) (p5 : (List TRoute)) : Option (((List TRoute) × Int) ⊕ (List TRoute)) :=
  some (.inl (p5, wr .i64 (p3.2 + 1)))
noncomputable def M.rib_Select_l1 (r2 : (List TRoute)) (p3 : (List TRoute) × Int) : Option (((List TRoute) × Int) ⊕ (List TRoute)) :=
  bif decide (p3.2 < (r2.length : Int)) then (gd [decide (0 ≤ p3.2), decide (p3.2 < (r2.length : Int))] (gd [guardB (!(decide ((wr .i64 ((p3.1.length : Int) - 1)) < 0))) (decide (0 ≤ (wr .i64 ((p3.1.length : Int) - 1)))), guardB (!(decide ((wr .i64 ((p3.1.length : Int) - 1)) < 0))) (decide ((wr .i64 ((p3.1.length : Int) - 1)) < (p3.1.length : Int)))] (bif (decide ((wr .i64 ((p3.1.length : Int) - 1)) < 0)) || (!(((((p3.1.getD (0 + (wr .i64 ((p3.1.length : Int) - 1)).toNat) default).fPrefix).fAddr) == (((r2.getD (0 + p3.2.toNat) default).fPrefix).fAddr)) && (((((p3.1.getD (0 + (wr .i64 ((p3.1.length : Int) - 1)).toNat) default).fPrefix).fLen) == (((r2.getD (0 + p3.2.toNat) default).fPrefix).fLen)) && true))) then (gd [decide ((p3.1.length + 1) * 136 ≤ 140737488355328)] (M.rib_Select_k1 p3 (p3.1 ++ [r2.getD (0 + p3.2.toNat) default]))) else ((M.rib_Less (r2.getD (0 + p3.2.toNat) default) (p3.1.getD (0 + (wr .i64 ((p3.1.length : Int) - 1)).toNat) default)).bind fun r6 => gd [decide (0 ≤ (wr .i64 ((p3.1.length : Int) - 1))), decide ((wr .i64 ((p3.1.length : Int) - 1)) < (p3.1.length : Int))] (bif r6 then (gd [decide (0 ≤ (wr .i64 ((p3.1.length : Int) - 1))), decide ((wr .i64 ((p3.1.length : Int) - 1)) < (p3.1.length : Int))] (M.rib_Select_k1 p3 (p3.1.set (0 + (wr .i64 ((p3.1.length : Int) - 1)).toNat) (r2.getD (0 + p3.2.toNat) default)))) else (M.rib_Select_k1 p3 p3.1)))))) else (some (.inr p3.1))
noncomputable def M.rib_Select_l2 (y7 : (List TRoute)) (p8 : (List TRoute) × Int) : Option (((List TRoute) × Int) ⊕ (List TRoute)) :=
  bif decide (p8.2 < (y7.length : Int)) then (gd [decide (0 ≤ p8.2), decide (p8.2 < (p8.1.length : Int))] ((M.rib_clone (p8.1.getD (0 + p8.2.toNat) default)).bind fun r10 => gd [decide (0 ≤ p8.2), decide (p8.2 < (p8.1.length : Int))] (some (.inl (p8.1.set (0 + p8.2.toNat) r10, wr .i64 (p8.2 + 1)))))) else (some (.inr p8.1))
noncomputable def M.rib_Select (a0 : List TRoute) : Option (List TRoute) :=
  (M.slices_Clone_api_Route_api_Route a0).bind fun r1 => (M.slices_SortStableFunc_api_Route_api_Route__rib_Select_1 r1).bind fun r2 => gd [decide (r2.length = r1.length)] ((loopM (M.rib_Select_l1 r2) (([] : List TRoute), 0)).bind fun y7 => (loopM (M.rib_Select_l2 y7) (y7, 0)).bind fun y11 => some y11)
noncomputable def M.law19_sane  : Option Bool :=
  (M.rib_Select ([(⟨(⟨0, 0⟩ : TPrefix), 2, 0, 5, 0, 0, 0, 0, ([] : List Int), 0, 0, ([] : List THop), true⟩ : TRoute), (⟨(⟨0, 0⟩ : TPrefix), 4, 3, 4, 2, 0, 0, 0, ([] : List Int), 0, 0, ([(⟨0, 9⟩ : THop)] : List THop), false⟩ : TRoute)] : List TRoute)).bind fun r1 => (gc (((r1.length : Int) == 1) && (((r1.getD (0 : Int).toNat default).fProto) == 4)) (M.rib_Less (⟨(⟨0, 0⟩ : TPrefix), 4, 3, 4, 2, 0, 0, 0, ([] : List Int), 0, 0, ([(⟨0, 9⟩ : THop)] : List THop), false⟩ : TRoute) (⟨(⟨0, 0⟩ : TPrefix), 2, 0, 5, 0, 0, 0, 0, ([] : List Int), 0, 0, ([] : List THop), true⟩ : TRoute))).bind fun r2 => (gc ((((r1.length : Int) == 1) && (((r1.getD (0 : Int).toNat default).fProto) == 4)) && r2) (M.rib_Less (⟨(⟨0, 0⟩ : TPrefix), 2, 0, 5, 0, 0, 0, 0, ([] : List Int), 0, 0, ([] : List THop), true⟩ : TRoute) (⟨(⟨0, 0⟩ : TPrefix), 4, 3, 4, 2, 0, 0, 0, ([] : List Int), 0, 0, ([(⟨0, 9⟩ : THop)] : List THop), false⟩ : TRoute))).bind fun r3 => gd [guardB ((r1.length : Int) == 1) (decide (0 ≤ 0)), guardB ((r1.length : Int) == 1) (decide (0 < (r1.length : Int)))] (some (((((r1.length : Int) == 1) && (((r1.getD (0 : Int).toNat default).fProto) == 4)) && r2) && (!r3)))
noncomputable def M.law19_RibOffers_l2 (a1 : List TRoute) (r5 : (List TRoute)) (p6 : Int × Int) (p8 : Int) : Option (Int ⊕ Int) :=
  gd [guardB (decide (p8 < (a1.length : Int))) (decide (0 ≤ p8)), guardB (decide (p8 < (a1.length : Int))) (decide (p8 < (a1.length : Int))), guardB (decide (p8 < (a1.length : Int))) (decide (0 ≤ p6.2)), guardB (decide (p8 < (a1.length : Int))) (decide (p6.2 < (r5.length : Int)))] (bif (decide (p8 < (a1.length : Int))) && (!(((((a1.getD p8.toNat default).fPrefix).fAddr) == (((r5.getD p6.2.toNat default).fPrefix).fAddr)) && (((((a1.getD p8.toNat default).fPrefix).fLen) == (((r5.getD p6.2.toNat default).fPrefix).fLen)) && true))) then (some (.inl (wr .i64 (p8 + 1)))) else (some (.inr p8)))
noncomputable def M.law19_RibOffers_l3 (a1 : List TRoute) (r4 : (List TRedist)) (y10 : Int) (p11 : Bool × Int) : Option ((Bool × Int) ⊕ Bool) :=
  bif decide (p11.2 < (r4.length : Int)) then (gd [guardB (!p11.1) (decide (0 ≤ p11.2)), guardB (!p11.1) (decide (p11.2 < (r4.length : Int)))] (some (.inl (p11.1 || (((r4.getD p11.2.toNat default).fFrom) == ((a1.getD y10.toNat default).fProto)), wr .i64 (p11.2 + 1))))) else (some (.inr p11.1))
noncomputable def M.law19_RibOffers_l1 (a1 : List TRoute) (a2 : Int) (r4 : (List TRedist)) (r5 : (List TRoute)) (p6 : Int × Int) : Option ((Int × Int) ⊕ (Unit ⊕ Bool)) :=
  bif decide (p6.2 < (r5.length : Int)) then ((loopM (M.law19_RibOffers_l2 a1 r5 p6) p6.1).bind fun y10 => bif y10 == (a1.length : Int) then (some (.inr (.inr false))) else (gd [decide (0 ≤ y10), decide (y10 < (a1.length : Int))] ((loopM (M.law19_RibOffers_l3 a1 r4 y10) (false, 0)).bind fun y13 => gd [guardB (!((!y13) || (((a1.getD y10.toNat default).fProto) == (([3, 4, 5, 5] : List Int).getD (bitD .and .i64 a2 3).toNat default)))) (decide (0 ≤ p6.2)), guardB (!((!y13) || (((a1.getD y10.toNat default).fProto) == (([3, 4, 5, 5] : List Int).getD (bitD .and .i64 a2 3).toNat default)))) (decide (p6.2 < (r5.length : Int))), guardB (!(((!y13) || (((a1.getD y10.toNat default).fProto) == (([3, 4, 5, 5] : List Int).getD (bitD .and .i64 a2 3).toNat default))) || (((r5.getD p6.2.toNat default).fProto) != (([3, 4, 5, 5] : List Int).getD (bitD .and .i64 a2 3).toNat default)))) (decide (0 ≤ p6.2)), guardB (!(((!y13) || (((a1.getD y10.toNat default).fProto) == (([3, 4, 5, 5] : List Int).getD (bitD .and .i64 a2 3).toNat default))) || (((r5.getD p6.2.toNat default).fProto) != (([3, 4, 5, 5] : List Int).getD (bitD .and .i64 a2 3).toNat default)))) (decide (p6.2 < (r5.length : Int))), guardB (!((((!y13) || (((a1.getD y10.toNat default).fProto) == (([3, 4, 5, 5] : List Int).getD (bitD .and .i64 a2 3).toNat default))) || (((r5.getD p6.2.toNat default).fProto) != (([3, 4, 5, 5] : List Int).getD (bitD .and .i64 a2 3).toNat default))) || (decide (((r5.getD p6.2.toNat default).fTag) < 0)))) (decide (0 ≤ p6.2)), guardB (!((((!y13) || (((a1.getD y10.toNat default).fProto) == (([3, 4, 5, 5] : List Int).getD (bitD .and .i64 a2 3).toNat default))) || (((r5.getD p6.2.toNat default).fProto) != (([3, 4, 5, 5] : List Int).getD (bitD .and .i64 a2 3).toNat default))) || (decide (((r5.getD p6.2.toNat default).fTag) < 0)))) (decide (p6.2 < (r5.length : Int))), guardB (!(((((!y13) || (((a1.getD y10.toNat default).fProto) == (([3, 4, 5, 5] : List Int).getD (bitD .and .i64 a2 3).toNat default))) || (((r5.getD p6.2.toNat default).fProto) != (([3, 4, 5, 5] : List Int).getD (bitD .and .i64 a2 3).toNat default))) || (decide (((r5.getD p6.2.toNat default).fTag) < 0))) || (decide (((r5.getD p6.2.toNat default).fTag) > 65535)))) (decide (0 ≤ p6.2)), guardB (!(((((!y13) || (((a1.getD y10.toNat default).fProto) == (([3, 4, 5, 5] : List Int).getD (bitD .and .i64 a2 3).toNat default))) || (((r5.getD p6.2.toNat default).fProto) != (([3, 4, 5, 5] : List Int).getD (bitD .and .i64 a2 3).toNat default))) || (decide (((r5.getD p6.2.toNat default).fTag) < 0))) || (decide (((r5.getD p6.2.toNat default).fTag) > 65535)))) (decide (p6.2 < (r5.length : Int))), guardB (!((((((!y13) || (((a1.getD y10.toNat default).fProto) == (([3, 4, 5, 5] : List Int).getD (bitD .and .i64 a2 3).toNat default))) || (((r5.getD p6.2.toNat default).fProto) != (([3, 4, 5, 5] : List Int).getD (bitD .and .i64 a2 3).toNat default))) || (decide (((r5.getD p6.2.toNat default).fTag) < 0))) || (decide (((r5.getD p6.2.toNat default).fTag) > 65535))) || (decide (((r5.getD p6.2.toNat default).fMetric) < 0)))) (decide (0 ≤ p6.2)), guardB (!((((((!y13) || (((a1.getD y10.toNat default).fProto) == (([3, 4, 5, 5] : List Int).getD (bitD .and .i64 a2 3).toNat default))) || (((r5.getD p6.2.toNat default).fProto) != (([3, 4, 5, 5] : List Int).getD (bitD .and .i64 a2 3).toNat default))) || (decide (((r5.getD p6.2.toNat default).fTag) < 0))) || (decide (((r5.getD p6.2.toNat default).fTag) > 65535))) || (decide (((r5.getD p6.2.toNat default).fMetric) < 0)))) (decide (p6.2 < (r5.length : Int)))] (bif ((((((!y13) || (((a1.getD y10.toNat default).fProto) == (([3, 4, 5, 5] : List Int).getD (bitD .and .i64 a2 3).toNat default))) || (((r5.getD p6.2.toNat default).fProto) != (([3, 4, 5, 5] : List Int).getD (bitD .and .i64 a2 3).toNat default))) || (decide (((r5.getD p6.2.toNat default).fTag) < 0))) || (decide (((r5.getD p6.2.toNat default).fTag) > 65535))) || (decide (((r5.getD p6.2.toNat default).fMetric) < 0))) || (decide (((r5.getD p6.2.toNat default).fMetric) > 16777215)) then (some (.inr (.inr false))) else ((gc ((([3, 4, 5, 5] : List Int).getD (bitD .and .i64 a2 3).toNat default) != 3) (M.ref15_Valid (r5.getD p6.2.toNat default))).bind fun r14 => gd [guardB ((([3, 4, 5, 5] : List Int).getD (bitD .and .i64 a2 3).toNat default) != 3) (decide (0 ≤ p6.2)), guardB ((([3, 4, 5, 5] : List Int).getD (bitD .and .i64 a2 3).toNat default) != 3) (decide (p6.2 < (r5.length : Int)))] (bif ((([3, 4, 5, 5] : List Int).getD (bitD .and .i64 a2 3).toNat default) != 3) && (!r14) then (some (.inr (.inr false))) else (some (.inl (wr .i64 (y10 + 1), wr .i64 (p6.2 + 1)))))))))) else (some (.inr (.inl ())))
noncomputable def M.law19_RibOffers (a0 : TRouter) (a1 : List TRoute) (a2 : Int) : Option Bool :=
  (M.law5_Small a0).bind fun r1 => (gc (!(!r1)) (M.ref8_CheckRouter a0)).bind fun r2 => (gc (!(((!r1) || (r2 != 0)) || (decide ((a1.length : Int) > 30)))) (M.ref15_Table a1 0)).bind fun r3 => bif (((!r1) || (r2 != 0)) || (decide ((a1.length : Int) > 30))) || (!r3) then (some true) else (gd [decide (0 ≤ (bitD .and .i64 a2 3)), decide ((bitD .and .i64 a2 3) < (([3, 4, 5, 5] : List Int).length : Int))] ((M.law19_into a0 (([3, 4, 5, 5] : List Int).getD (bitD .and .i64 a2 3).toNat default)).bind fun r4 => (M.rib_Redistribute a0 r4 a1 (([3, 4, 5, 5] : List Int).getD (bitD .and .i64 a2 3).toNat default)).bind fun r5 => (loopM (M.law19_RibOffers_l1 a1 a2 r4 r5) (0, 0)).bind fun y15 => Sum.elim (fun _ => (M.law19_sane).bind fun r18 => some r18) (fun y17 => some y17) y15))
end Nv
