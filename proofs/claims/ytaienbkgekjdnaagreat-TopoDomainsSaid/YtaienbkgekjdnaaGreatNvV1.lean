/- Data that can come in: the integers fit their kinds, the lengths an int. -/
import Derived.Test.YtaienbkgekjdnaaGreatNvD1
import Derived.Test.YtaienbkgekjdnaaGreatNvLibB
namespace Nv
open Go
def W_TInterface (x : TInterface) : Prop := x.fName.size ≤ maxLen ∧ (Lit.int .u32 x.fAddr).wf = true ∧ (Lit.int .i64 x.fLen).wf = true ∧ (Lit.int .i64 x.fVLAN).wf = true ∧ True ∧ True ∧ (Lit.int .i64 x.fArea).wf = true ∧ (Lit.int .i64 x.fCost).wf = true ∧ True ∧ x.fIn.size ≤ maxLen ∧ x.fOut.size ≤ maxLen ∧ (Lit.int .i64 x.fSide).wf = true
def W_TPrefix (x : TPrefix) : Prop := (Lit.int .u32 x.fAddr).wf = true ∧ (Lit.int .i64 x.fLen).wf = true
def W_TPrefixRule (x : TPrefixRule) : Prop := True ∧ W_TPrefix x.fPrefix ∧ (Lit.int .i64 x.fMin).wf = true ∧ (Lit.int .i64 x.fMax).wf = true
def W_TPrefixList (x : TPrefixList) : Prop := x.fName.size ≤ maxLen ∧ (x.fRules.length ≤ maxLen ∧ x.fRules.length * 40 ≤ reachBytes ∧ ∀ y ∈ x.fRules, W_TPrefixRule y)
def W_TClause (x : TClause) : Prop := True ∧ x.fList.size ≤ maxLen ∧ (Lit.int .i64 x.fTag).wf = true ∧ (Lit.int .i64 x.fSetMetric).wf = true ∧ (Lit.int .i64 x.fSetTag).wf = true ∧ (Lit.int .i64 x.fSetPref).wf = true ∧ (Lit.int .i64 x.fPrepend).wf = true
def W_TRouteMap (x : TRouteMap) : Prop := x.fName.size ≤ maxLen ∧ (x.fClauses.length ≤ maxLen ∧ x.fClauses.length * 64 ≤ reachBytes ∧ ∀ y ∈ x.fClauses, W_TClause y)
def W_TWildcard (x : TWildcard) : Prop := (Lit.int .u32 x.fAddr).wf = true ∧ (Lit.int .u32 x.fMask).wf = true
def W_TPortRange (x : TPortRange) : Prop := (Lit.int .i64 x.fLo).wf = true ∧ (Lit.int .i64 x.fHi).wf = true
def W_TRule (x : TRule) : Prop := True ∧ (Lit.int .i64 x.fProto).wf = true ∧ W_TWildcard x.fSrc ∧ W_TWildcard x.fDst ∧ W_TPortRange x.fSrcPorts ∧ W_TPortRange x.fDstPorts
def W_TACL (x : TACL) : Prop := x.fName.size ≤ maxLen ∧ (x.fRules.length ≤ maxLen ∧ x.fRules.length * 64 ≤ reachBytes ∧ ∀ y ∈ x.fRules, W_TRule y)
def W_TTranslation (x : TTranslation) : Prop := (Lit.int .i64 x.fKind).wf = true ∧ (Lit.int .u32 x.fInside).wf = true ∧ (Lit.int .u32 x.fOutside).wf = true ∧ (Lit.int .i64 x.fProto).wf = true ∧ (Lit.int .i64 x.fInsidePort).wf = true ∧ (Lit.int .i64 x.fOutsidePort).wf = true ∧ x.fList.size ≤ maxLen ∧ (Lit.int .u32 x.fLo).wf = true ∧ (Lit.int .u32 x.fHi).wf = true
def W_TStaticRoute (x : TStaticRoute) : Prop := W_TPrefix x.fPrefix ∧ (Lit.int .u32 x.fNext).wf = true ∧ x.fIface.size ≤ maxLen ∧ True ∧ (Lit.int .i64 x.fAdmin).wf = true ∧ (Lit.int .i64 x.fTag).wf = true
def W_TAreaRange (x : TAreaRange) : Prop := (Lit.int .i64 x.fArea).wf = true ∧ W_TPrefix x.fPrefix
def W_TRedist (x : TRedist) : Prop := (Lit.int .i64 x.fFrom).wf = true ∧ (Lit.int .i64 x.fMetric).wf = true ∧ (Lit.int .i64 x.fTag).wf = true ∧ x.fMap.size ≤ maxLen ∧ (Lit.int .i64 x.fType).wf = true
def W_TLinkState (x : TLinkState) : Prop := True ∧ (Lit.int .i64 x.fAdmin).wf = true ∧ (x.fRanges.length ≤ maxLen ∧ x.fRanges.length * 24 ≤ reachBytes ∧ ∀ y ∈ x.fRanges, W_TAreaRange y) ∧ (x.fRedist.length ≤ maxLen ∧ x.fRedist.length * 48 ≤ reachBytes ∧ ∀ y ∈ x.fRedist, W_TRedist y)
def W_TDistanceVector (x : TDistanceVector) : Prop := True ∧ (Lit.int .i64 x.fAdmin).wf = true ∧ x.fIn.size ≤ maxLen ∧ x.fOut.size ≤ maxLen ∧ (x.fRedist.length ≤ maxLen ∧ x.fRedist.length * 48 ≤ reachBytes ∧ ∀ y ∈ x.fRedist, W_TRedist y)
def W_TNeighbor (x : TNeighbor) : Prop := (Lit.int .u32 x.fAddr).wf = true ∧ (Lit.int .i64 x.fAS).wf = true ∧ x.fIn.size ≤ maxLen ∧ x.fOut.size ≤ maxLen
def W_TAggregate (x : TAggregate) : Prop := W_TPrefix x.fPrefix ∧ True
def W_TCondition (x : TCondition) : Prop := W_TPrefix x.fPrefix ∧ W_TPrefix x.fIf ∧ True
def W_TPathVector (x : TPathVector) : Prop := True ∧ (Lit.int .i64 x.fExternal).wf = true ∧ (Lit.int .i64 x.fInternal).wf = true ∧ (x.fNeighbors.length ≤ maxLen ∧ x.fNeighbors.length * 48 ≤ reachBytes ∧ ∀ y ∈ x.fNeighbors, W_TNeighbor y) ∧ (x.fNetworks.length ≤ maxLen ∧ x.fNetworks.length * 16 ≤ reachBytes ∧ ∀ y ∈ x.fNetworks, W_TPrefix y) ∧ (x.fAggregates.length ≤ maxLen ∧ x.fAggregates.length * 24 ≤ reachBytes ∧ ∀ y ∈ x.fAggregates, W_TAggregate y) ∧ (x.fConditions.length ≤ maxLen ∧ x.fConditions.length * 40 ≤ reachBytes ∧ ∀ y ∈ x.fConditions, W_TCondition y) ∧ (x.fRedist.length ≤ maxLen ∧ x.fRedist.length * 48 ≤ reachBytes ∧ ∀ y ∈ x.fRedist, W_TRedist y)
def W_TRouter (x : TRouter) : Prop := x.fName.size ≤ maxLen ∧ (Lit.int .i64 x.fAS).wf = true ∧ (x.fInterfaces.length ≤ maxLen ∧ x.fInterfaces.length * 112 ≤ reachBytes ∧ ∀ y ∈ x.fInterfaces, W_TInterface y) ∧ (x.fLists.length ≤ maxLen ∧ x.fLists.length * 40 ≤ reachBytes ∧ ∀ y ∈ x.fLists, W_TPrefixList y) ∧ (x.fMaps.length ≤ maxLen ∧ x.fMaps.length * 40 ≤ reachBytes ∧ ∀ y ∈ x.fMaps, W_TRouteMap y) ∧ (x.fACLs.length ≤ maxLen ∧ x.fACLs.length * 40 ≤ reachBytes ∧ ∀ y ∈ x.fACLs, W_TACL y) ∧ (x.fNAT.length ≤ maxLen ∧ x.fNAT.length * 64 ≤ reachBytes ∧ ∀ y ∈ x.fNAT, W_TTranslation y) ∧ (x.fStatics.length ≤ maxLen ∧ x.fStatics.length * 64 ≤ reachBytes ∧ ∀ y ∈ x.fStatics, W_TStaticRoute y) ∧ W_TLinkState x.fLS ∧ W_TDistanceVector x.fDV ∧ W_TPathVector x.fPV
def W_TNetwork (x : TNetwork) : Prop := (x.fRouters.length ≤ maxLen ∧ x.fRouters.length * 448 ≤ reachBytes ∧ ∀ y ∈ x.fRouters, W_TRouter y)
end Nv
