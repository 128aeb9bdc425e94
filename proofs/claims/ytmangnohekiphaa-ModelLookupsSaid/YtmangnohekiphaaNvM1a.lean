/- Part of the proof of ModelLookups: functions and what they compute. No condition. -/
import Derived.Test.YtmangnohekiphaaProg
import Derived.Test.YtmangnohekiphaaNvGen
import Derived.KernelRfl
set_option maxRecDepth 100000
namespace Nv
open Go Go.Proofs
structure TInterface where
  fName : ByteArray
  fAddr : Int
  fLen : Int
  fVLAN : Int
  fDown : Bool
  fLS : Bool
  fArea : Int
  fCost : Int
  fDV : Bool
  fIn : ByteArray
  fOut : ByteArray
  fSide : Int
  deriving Inhabited
def c_TInterface (x : TInterface) : List D := [.str x.fName, .int .u32 x.fAddr, .int .i64 x.fLen, .int .i64 x.fVLAN, .bool x.fDown, .bool x.fLS, .int .i64 x.fArea, .int .i64 x.fCost, .bool x.fDV, .str x.fIn, .str x.fOut, .int .i64 x.fSide]
structure TPrefix where
  fAddr : Int
  fLen : Int
  deriving Inhabited
def c_TPrefix (x : TPrefix) : List D := [.int .u32 x.fAddr, .int .i64 x.fLen]
structure TPrefixRule where
  fPermit : Bool
  fPrefix : TPrefix
  fMin : Int
  fMax : Int
  deriving Inhabited
def c_TPrefixRule (x : TPrefixRule) : List D := [.bool x.fPermit, .int .u32 x.fPrefix.fAddr, .int .i64 x.fPrefix.fLen, .int .i64 x.fMin, .int .i64 x.fMax]
structure TPrefixList where
  fName : ByteArray
  fRules : List TPrefixRule
  deriving Inhabited
def c_TPrefixList (x : TPrefixList) : List D := [.str x.fName, sL 5 c_TPrefixRule x.fRules]
structure TClause where
  fPermit : Bool
  fList : ByteArray
  fTag : Int
  fSetMetric : Int
  fSetTag : Int
  fSetPref : Int
  fPrepend : Int
  deriving Inhabited
def c_TClause (x : TClause) : List D := [.bool x.fPermit, .str x.fList, .int .i64 x.fTag, .int .i64 x.fSetMetric, .int .i64 x.fSetTag, .int .i64 x.fSetPref, .int .i64 x.fPrepend]
structure TRouteMap where
  fName : ByteArray
  fClauses : List TClause
  deriving Inhabited
def c_TRouteMap (x : TRouteMap) : List D := [.str x.fName, sL 7 c_TClause x.fClauses]
structure TWildcard where
  fAddr : Int
  fMask : Int
  deriving Inhabited
def c_TWildcard (x : TWildcard) : List D := [.int .u32 x.fAddr, .int .u32 x.fMask]
structure TPortRange where
  fLo : Int
  fHi : Int
  deriving Inhabited
def c_TPortRange (x : TPortRange) : List D := [.int .i64 x.fLo, .int .i64 x.fHi]
structure TRule where
  fPermit : Bool
  fProto : Int
  fSrc : TWildcard
  fDst : TWildcard
  fSrcPorts : TPortRange
  fDstPorts : TPortRange
  deriving Inhabited
def c_TRule (x : TRule) : List D := [.bool x.fPermit, .int .i64 x.fProto, .int .u32 x.fSrc.fAddr, .int .u32 x.fSrc.fMask, .int .u32 x.fDst.fAddr, .int .u32 x.fDst.fMask, .int .i64 x.fSrcPorts.fLo, .int .i64 x.fSrcPorts.fHi, .int .i64 x.fDstPorts.fLo, .int .i64 x.fDstPorts.fHi]
structure TACL where
  fName : ByteArray
  fRules : List TRule
  deriving Inhabited
def c_TACL (x : TACL) : List D := [.str x.fName, sL 10 c_TRule x.fRules]
structure TTranslation where
  fKind : Int
  fInside : Int
  fOutside : Int
  fProto : Int
  fInsidePort : Int
  fOutsidePort : Int
  fList : ByteArray
  fLo : Int
  fHi : Int
  deriving Inhabited
def c_TTranslation (x : TTranslation) : List D := [.int .i64 x.fKind, .int .u32 x.fInside, .int .u32 x.fOutside, .int .i64 x.fProto, .int .i64 x.fInsidePort, .int .i64 x.fOutsidePort, .str x.fList, .int .u32 x.fLo, .int .u32 x.fHi]
structure TStaticRoute where
  fPrefix : TPrefix
  fNext : Int
  fIface : ByteArray
  fDiscard : Bool
  fAdmin : Int
  fTag : Int
  deriving Inhabited
def c_TStaticRoute (x : TStaticRoute) : List D := [.int .u32 x.fPrefix.fAddr, .int .i64 x.fPrefix.fLen, .int .u32 x.fNext, .str x.fIface, .bool x.fDiscard, .int .i64 x.fAdmin, .int .i64 x.fTag]
structure TAreaRange where
  fArea : Int
  fPrefix : TPrefix
  deriving Inhabited
def c_TAreaRange (x : TAreaRange) : List D := [.int .i64 x.fArea, .int .u32 x.fPrefix.fAddr, .int .i64 x.fPrefix.fLen]
structure TRedist where
  fFrom : Int
  fMetric : Int
  fTag : Int
  fMap : ByteArray
  fType : Int
  deriving Inhabited
def c_TRedist (x : TRedist) : List D := [.int .i64 x.fFrom, .int .i64 x.fMetric, .int .i64 x.fTag, .str x.fMap, .int .i64 x.fType]
structure TLinkState where
  fOn : Bool
  fAdmin : Int
  fRanges : List TAreaRange
  fRedist : List TRedist
  deriving Inhabited
def c_TLinkState (x : TLinkState) : List D := [.bool x.fOn, .int .i64 x.fAdmin, sL 3 c_TAreaRange x.fRanges, sL 5 c_TRedist x.fRedist]
structure TDistanceVector where
  fOn : Bool
  fAdmin : Int
  fIn : ByteArray
  fOut : ByteArray
  fRedist : List TRedist
  deriving Inhabited
def c_TDistanceVector (x : TDistanceVector) : List D := [.bool x.fOn, .int .i64 x.fAdmin, .str x.fIn, .str x.fOut, sL 5 c_TRedist x.fRedist]
structure TNeighbor where
  fAddr : Int
  fAS : Int
  fIn : ByteArray
  fOut : ByteArray
  deriving Inhabited
def c_TNeighbor (x : TNeighbor) : List D := [.int .u32 x.fAddr, .int .i64 x.fAS, .str x.fIn, .str x.fOut]
structure TAggregate where
  fPrefix : TPrefix
  fOnly : Bool
  deriving Inhabited
def c_TAggregate (x : TAggregate) : List D := [.int .u32 x.fPrefix.fAddr, .int .i64 x.fPrefix.fLen, .bool x.fOnly]
structure TCondition where
  fPrefix : TPrefix
  fIf : TPrefix
  fAbsent : Bool
  deriving Inhabited
def c_TCondition (x : TCondition) : List D := [.int .u32 x.fPrefix.fAddr, .int .i64 x.fPrefix.fLen, .int .u32 x.fIf.fAddr, .int .i64 x.fIf.fLen, .bool x.fAbsent]
structure TPathVector where
  fOn : Bool
  fExternal : Int
  fInternal : Int
  fNeighbors : List TNeighbor
  fNetworks : List TPrefix
  fAggregates : List TAggregate
  fConditions : List TCondition
  fRedist : List TRedist
  deriving Inhabited
def c_TPathVector (x : TPathVector) : List D := [.bool x.fOn, .int .i64 x.fExternal, .int .i64 x.fInternal, sL 4 c_TNeighbor x.fNeighbors, sL 2 c_TPrefix x.fNetworks, sL 3 c_TAggregate x.fAggregates, sL 5 c_TCondition x.fConditions, sL 5 c_TRedist x.fRedist]
structure TRouter where
  fName : ByteArray
  fAS : Int
  fInterfaces : List TInterface
  fLists : List TPrefixList
  fMaps : List TRouteMap
  fACLs : List TACL
  fNAT : List TTranslation
  fStatics : List TStaticRoute
  fLS : TLinkState
  fDV : TDistanceVector
  fPV : TPathVector
  deriving Inhabited
def c_TRouter (x : TRouter) : List D := [.str x.fName, .int .i64 x.fAS, sL 12 c_TInterface x.fInterfaces, sL 2 c_TPrefixList x.fLists, sL 2 c_TRouteMap x.fMaps, sL 2 c_TACL x.fACLs, sL 9 c_TTranslation x.fNAT, sL 7 c_TStaticRoute x.fStatics, .bool x.fLS.fOn, .int .i64 x.fLS.fAdmin, sL 3 c_TAreaRange x.fLS.fRanges, sL 5 c_TRedist x.fLS.fRedist, .bool x.fDV.fOn, .int .i64 x.fDV.fAdmin, .str x.fDV.fIn, .str x.fDV.fOut, sL 5 c_TRedist x.fDV.fRedist, .bool x.fPV.fOn, .int .i64 x.fPV.fExternal, .int .i64 x.fPV.fInternal, sL 4 c_TNeighbor x.fPV.fNeighbors, sL 2 c_TPrefix x.fPV.fNetworks, sL 3 c_TAggregate x.fPV.fAggregates, sL 5 c_TCondition x.fPV.fConditions, sL 5 c_TRedist x.fPV.fRedist]
structure TNetwork where
  fRouters : List TRouter
  deriving Inhabited
def c_TNetwork (x : TNetwork) : List D := [sL 25 c_TRouter x.fRouters]

/- netverify/model.Router$1 -/
noncomputable def M.model_Router_1 (a0 : TRouter) (b0 : ByteArray) : Option Bool :=
  some (strEq a0.fName b0)
theorem model_Router_1_ok (a0 : TRouter) (b0 : ByteArray) (r : Bool) (h : M.model_Router_1 a0 b0 = some r) : Fn Try.prog 49 [.agg (c_TRouter a0), .pp (cs b0)] (.pure (.bool r)) := by
  unfold M.model_Router_1 at h
  refine fn_pure Try.func49 rfl (by kernel_rfl) ?_
  refine awp_seq ?_
  refine awp_reg [] [1, 2] 1 ⟨8, [(1, .pp (cs b0)), (2, .ref 0 0)], [.box (c_TRouter a0)]⟩ [] [] (by kernel_rfl) nil_all trivial ?_
  refine then_n ?_
  refine awp_seq ?_
  refine awp_reg [] [3] 0 ⟨8, [(3, .bool (strEq a0.fName b0))], []⟩ [] [] (by kernel_rfl) nil_all trivial ?_
  refine then_n ?_
  refine awp_ret ?_
  obtain rfl := Option.some.inj h
  exact ends_r (.bool (strEq a0.fName b0)) (by kernel_rfl) Sub.rfl

/- slices.IndexFunc[[]netverify/api.Router,netverify/api.Router] -/
noncomputable def M.slices_IndexFunc_api_Router_api_Router__model_Router_1_l1 (a0 : List TRouter) (a1c0 : ByteArray) (p1 : Int) : Option (Int ⊕ (Unit ⊕ Int)) :=
  bif decide (p1 < (a0.length : Int)) then ((M.model_Router_1 (a0.getD p1.toNat default) a1c0).bind fun r3 => gd [decide (0 ≤ p1), decide (p1 < (a0.length : Int))] (bif r3 then (some (.inr (.inr p1))) else (some (.inl (wr .i64 (p1 + 1)))))) else (some (.inr (.inl ())))
noncomputable def M.slices_IndexFunc_api_Router_api_Router__model_Router_1 (a0 : List TRouter) (a1c0 : ByteArray) : Option Int :=
  (loopM (M.slices_IndexFunc_api_Router_api_Router__model_Router_1_l1 a0 a1c0) 0).bind fun y4 => Sum.elim (fun g5 => some (-1)) (fun y6 => some y6) y4
theorem slices_IndexFunc_api_Router_api_Router__model_Router_1_ok (a0 : List TRouter) (a1c0 : ByteArray) (r : Int) (h : M.slices_IndexFunc_api_Router_api_Router__model_Router_1 a0 a1c0 = some r) : Fn Try.prog 48 [sL 25 c_TRouter a0, .fn 49 [.pp (cs a1c0)]] (.pure (.int .i64 r)) := by
  unfold M.slices_IndexFunc_api_Router_api_Router__model_Router_1 at h
  refine fn_pure Try.func48 rfl (by kernel_rfl) ?_
  refine awp_seq ?_
  refine awp_reg [] [0, 1] 0 ⟨19, [(0, sL 25 c_TRouter a0), (1, .fn 49 [.pp (cs a1c0)])], []⟩ [] [] (by kernel_rfl) nil_all trivial ?_
  refine then_n ?_
  refine awp_seq ?_
  refine awp_seq ?_
  refine awp_reg [] [0, 1, 7, 8] 0 ⟨19, [(0, sL 25 c_TRouter a0), (1, .fn 49 [.pp (cs a1c0)]), (7, .int .i64 (a0.length : Int)), (8, .int .i64 0)], []⟩ [] [] (by kernel_rfl) nil_all trivial ?_
  refine then_n ?_
  refine awp_block ?_
  obtain ⟨y4, q12, h13⟩ := bind_some h
  refine awp_le (s' := ⟨19, [(0, sL 25 c_TRouter a0), (1, .fn 49 [.pp (cs a1c0)]), (7, .int .i64 (a0.length : Int)), (8, .int .i64 0)], []⟩) (le_rfl) ?_
  refine awp_mono (awp_loop (f := M.slices_IndexFunc_api_Router_api_Router__model_Router_1_l1 a0 a1c0) (S := fun (p1 : Int) => ⟨19, [(0, sL 25 c_TRouter a0), (1, .fn 49 [.pp (cs a1c0)]), (7, .int .i64 (a0.length : Int)), (8, .int .i64 p1)], []⟩) (O := (Sum.elim (fun z => OutE 0 (fun z => ⟨19, [], []⟩) z) (fun z => OutR Try.prog Try.f48 (.int .i64 z)))) ?_ (x := 0) (y := y4) (loopM_iter q12)) ?_
  · intro p1 y2 h1
    unfold M.slices_IndexFunc_api_Router_api_Router__model_Router_1_l1 at h1
    refine awp_seq ?_
    refine awp_reg [] [0, 1, 7, 8, 9] 0 ⟨19, [(0, sL 25 c_TRouter a0), (1, .fn 49 [.pp (cs a1c0)]), (7, .int .i64 (a0.length : Int)), (8, .int .i64 p1), (9, .bool (decide (p1 < (a0.length : Int))))], []⟩ [] [] (by kernel_rfl) nil_all trivial ?_
    refine then_n ?_
    refine awp_seq ?_
    refine awp_cond (b := decide (p1 < (a0.length : Int))) (by kernel_rfl) (fun b2 => ?_) (fun b2 => ?_)
    · have h3 := cond_t b2 h1
      refine awp_skip ?_
      refine then_n ?_
      refine awp_seq ?_
      refine awp_block ?_
      refine awp_seq ?_
      refine awp_reg [] [0, 1, 5, 7, 8] 0 ⟨19, [(0, sL 25 c_TRouter a0), (1, .fn 49 [.pp (cs a1c0)]), (5, .int .i64 p1), (7, .int .i64 (a0.length : Int)), (8, .int .i64 p1)], []⟩ [] [] (by kernel_rfl) nil_all trivial ?_
      refine then_n ?_
      refine awp_seq ?_
      obtain ⟨r3, q5, h6⟩ := bind_some h3
      obtain ⟨c7, h8⟩ := gd_some h6
      refine awp_reg [.pure (.bool r3)] [0, 1, 5, 7, 8, 16] 0 ⟨19, [(0, sL 25 c_TRouter a0), (1, .fn 49 [.pp (cs a1c0)]), (5, .int .i64 p1), (7, .int .i64 (a0.length : Int)), (8, .int .i64 p1), (16, .bool r3)], []⟩ [decide (0 ≤ p1), decide (p1 < (a0.length : Int))] [⟨true, 49, [.agg (c_TRouter (a0.getD p1.toNat default)), .pp (cs a1c0)], .pure (.bool r3)⟩] (by kernel_rfl) c7 ⟨fun _ => model_Router_1_ok (a0.getD p1.toNat default) a1c0 r3 q5, trivial⟩ ?_
      refine then_n ?_
      refine awp_cond (b := r3) (by kernel_rfl) (fun b9 => ?_) (fun b9 => ?_)
      · have h10 := cond_t b9 h8
        refine awp_seq ?_
        refine awp_reg [] [4] 0 ⟨19, [(4, .int .i64 p1)], []⟩ [] [] (by kernel_rfl) nil_all trivial ?_
        refine then_n ?_
        refine awp_ret ?_
        refine inb_r ?_
        refine then_r ?_
        obtain rfl := Option.some.inj h10
        exact round_r ⟨rfl, ends_r (.int .i64 p1) (by kernel_rfl) Sub.rfl⟩
      · have h11 := cond_f b9 h8
        refine awp_skip ?_
        refine inb_n ?_
        refine then_n ?_
        refine awp_reg [] [0, 1, 7, 8] 0 ⟨19, [(0, sL 25 c_TRouter a0), (1, .fn 49 [.pp (cs a1c0)]), (7, .int .i64 (a0.length : Int)), (8, .int .i64 (wr .i64 (p1 + 1)))], []⟩ [] [] (by kernel_rfl) nil_all trivial ?_
        obtain rfl := Option.some.inj h11
        exact round_n (le_rfl)
    · have h4 := cond_f b2 h1
      refine awp_exit ?_
      refine then_e ?_
      obtain rfl := Option.some.inj h4
      exact round_e ⟨rfl, le_keep' [] (by kernel_rfl)⟩
  · intro e14 s15 o16
    rcases y4 with g5 | y6
    · have h17 := elim_l h13
      obtain ⟨rfl, l19⟩ := o16
      refine inb_here ?_
      refine then_le (s' := ⟨19, [], []⟩) (l19) ?_
      refine awp_seq ?_
      refine awp_reg [] [4] 0 ⟨19, [(4, .int .i64 (-1))], []⟩ [] [] (by kernel_rfl) nil_all trivial ?_
      refine then_n ?_
      refine awp_ret ?_
      obtain rfl := Option.some.inj h17
      exact ends_r (.int .i64 (-1)) (by kernel_rfl) Sub.rfl
    · have h18 := elim_r h13
      obtain ⟨rfl, n20⟩ := o16
      refine inb_r ?_
      refine then_r ?_
      obtain rfl := Option.some.inj h18
      exact n20

/- netverify/model.Router -/
noncomputable def M.model_Router (a0 : TNetwork) (a1 : ByteArray) : Option Int :=
  (M.slices_IndexFunc_api_Router_api_Router__model_Router_1 a0.fRouters a1).bind fun r1 => some r1
theorem model_Router_ok (a0 : TNetwork) (a1 : ByteArray) (r : Int) (h : M.model_Router a0 a1 = some r) : Fn Try.prog 13 [.agg (c_TNetwork a0), .str a1] (.pure (.int .i64 r)) := by
  unfold M.model_Router at h
  refine fn_pure Try.func13 rfl (by kernel_rfl) ?_
  refine awp_seq ?_
  refine awp_reg [] [2, 3] 2 ⟨9, [(2, .ref 0 0), (3, .ref 1 0)], [.box (c_TNetwork a0), .box [.str a1]]⟩ [] [] (by kernel_rfl) nil_all trivial ?_
  refine then_n ?_
  refine awp_seq ?_
  obtain ⟨r1, q1, h2⟩ := bind_some h
  refine awp_reg [.pure (.int .i64 r1)] [4] 0 ⟨9, [(4, .int .i64 r1)], []⟩ [] [⟨true, 48, [sL 25 c_TRouter a0.fRouters, .fn 49 [.pp (cs a1)]], .pure (.int .i64 r1)⟩] (by kernel_rfl) nil_all ⟨fun _ => slices_IndexFunc_api_Router_api_Router__model_Router_1_ok a0.fRouters a1 r1 q1, trivial⟩ ?_
  refine then_n ?_
  refine awp_ret ?_
  obtain rfl := Option.some.inj h2
  exact ends_r (.int .i64 r1) (by kernel_rfl) Sub.rfl

/- netverify/netverifyref8.Router -/
noncomputable def M.ref8_Router_l1 (a0 : TNetwork) (a1 : ByteArray) (p1 : Int) : Option (Int ⊕ (Unit ⊕ Int)) :=
  bif decide (p1 < (a0.fRouters.length : Int)) then (gd [decide (0 ≤ p1), decide (p1 < (a0.fRouters.length : Int))] (bif strEq ((a0.fRouters.getD p1.toNat default).fName) a1 then (some (.inr (.inr p1))) else (some (.inl (wr .i64 (p1 + 1)))))) else (some (.inr (.inl ())))
noncomputable def M.ref8_Router (a0 : TNetwork) (a1 : ByteArray) : Option Int :=
  (loopM (M.ref8_Router_l1 a0 a1) 0).bind fun y3 => Sum.elim (fun g4 => some (-1)) (fun y5 => some y5) y3
theorem ref8_Router_ok (a0 : TNetwork) (a1 : ByteArray) (r : Int) (h : M.ref8_Router a0 a1 = some r) : Fn Try.prog 14 [.agg (c_TNetwork a0), .str a1] (.pure (.int .i64 r)) := by
  unfold M.ref8_Router at h
  refine fn_pure Try.func14 rfl (by kernel_rfl) ?_
  refine awp_seq ?_
  refine awp_reg [] [1, 2] 1 ⟨22, [(1, .str a1), (2, .ref 0 0)], [.box (c_TNetwork a0)]⟩ [] [] (by kernel_rfl) nil_all trivial ?_
  refine then_n ?_
  refine awp_seq ?_
  refine awp_seq ?_
  refine awp_reg [] [1, 2, 5] 1 ⟨22, [(1, .str a1), (2, .ref 0 0), (5, .int .i64 0)], [.box (c_TNetwork a0)]⟩ [] [] (by kernel_rfl) nil_all trivial ?_
  refine then_n ?_
  refine awp_block ?_
  obtain ⟨y3, q10, h11⟩ := bind_some h
  refine awp_le (s' := ⟨22, [(1, .str a1), (2, .ref 0 0), (5, .int .i64 0)], [.box (c_TNetwork a0)]⟩) (le_rfl) ?_
  refine awp_mono (awp_loop (f := M.ref8_Router_l1 a0 a1) (S := fun (p1 : Int) => ⟨22, [(1, .str a1), (2, .ref 0 0), (5, .int .i64 p1)], [.box (c_TNetwork a0)]⟩) (O := (Sum.elim (fun z => OutE 0 (fun z => ⟨22, [], []⟩) z) (fun z => OutR Try.prog Try.f14 (.int .i64 z)))) ?_ (x := 0) (y := y3) (loopM_iter q10)) ?_
  · intro p1 y2 h1
    unfold M.ref8_Router_l1 at h1
    refine awp_seq ?_
    refine awp_seq ?_
    refine awp_reg [] [1, 2, 5, 10] 1 ⟨22, [(1, .str a1), (2, .ref 0 0), (5, .int .i64 p1), (10, .bool (decide (p1 < (a0.fRouters.length : Int))))], [.box (c_TNetwork a0)]⟩ [] [] (by kernel_rfl) nil_all trivial ?_
    refine then_n ?_
    refine awp_cond (b := decide (p1 < (a0.fRouters.length : Int))) (by kernel_rfl) (fun b2 => ?_) (fun b2 => ?_)
    · have h3 := cond_t b2 h1
      refine awp_skip ?_
      refine then_n ?_
      refine awp_seq ?_
      refine awp_block ?_
      refine awp_seq ?_
      obtain ⟨c5, h6⟩ := gd_some h3
      refine awp_reg [] [1, 2, 5, 20] 1 ⟨22, [(1, .str a1), (2, .ref 0 0), (5, .int .i64 p1), (20, .bool (strEq ((a0.fRouters.getD p1.toNat default).fName) a1))], [.box (c_TNetwork a0)]⟩ [decide (0 ≤ p1), decide (p1 < (a0.fRouters.length : Int))] [] (by kernel_rfl) c5 trivial ?_
      refine then_n ?_
      refine awp_cond (b := strEq ((a0.fRouters.getD p1.toNat default).fName) a1) (by kernel_rfl) (fun b7 => ?_) (fun b7 => ?_)
      · have h8 := cond_t b7 h6
        refine awp_seq ?_
        refine awp_reg [] [4] 0 ⟨22, [(4, .int .i64 p1)], []⟩ [] [] (by kernel_rfl) nil_all trivial ?_
        refine then_n ?_
        refine awp_ret ?_
        refine inb_r ?_
        refine then_r ?_
        obtain rfl := Option.some.inj h8
        exact round_r ⟨rfl, ends_r (.int .i64 p1) (by kernel_rfl) Sub.rfl⟩
      · have h9 := cond_f b7 h6
        refine awp_skip ?_
        refine inb_n ?_
        refine then_n ?_
        refine awp_reg [] [1, 2, 5] 1 ⟨22, [(1, .str a1), (2, .ref 0 0), (5, .int .i64 (wr .i64 (p1 + 1)))], [.box (c_TNetwork a0)]⟩ [] [] (by kernel_rfl) nil_all trivial ?_
        obtain rfl := Option.some.inj h9
        exact round_n (le_rfl)
    · have h4 := cond_f b2 h1
      refine awp_exit ?_
      refine then_e ?_
      obtain rfl := Option.some.inj h4
      exact round_e ⟨rfl, Le.trans (s' := ⟨22, [], [.box (c_TNetwork a0)]⟩) (le_keep' [] (by kernel_rfl)) (le_cut (n := 0) (by kernel_rfl))⟩
  · intro e12 s13 o14
    rcases y3 with g4 | y5
    · have h15 := elim_l h11
      obtain ⟨rfl, l17⟩ := o14
      refine inb_here ?_
      refine then_le (s' := ⟨22, [], []⟩) (l17) ?_
      refine awp_seq ?_
      refine awp_reg [] [4] 0 ⟨22, [(4, .int .i64 (-1))], []⟩ [] [] (by kernel_rfl) nil_all trivial ?_
      refine then_n ?_
      refine awp_ret ?_
      obtain rfl := Option.some.inj h15
      exact ends_r (.int .i64 (-1)) (by kernel_rfl) Sub.rfl
    · have h16 := elim_r h11
      obtain ⟨rfl, n18⟩ := o14
      refine inb_r ?_
      refine then_r ?_
      obtain rfl := Option.some.inj h16
      exact n18

/- netverify/netverifylaw5.Small -/
noncomputable def M.law5_Small_l1 (a0 : TRouter) (p1 : Int) : Option (Int ⊕ (Unit ⊕ Bool)) :=
  bif decide (p1 < (a0.fLists.length : Int)) then (gd [decide (0 ≤ p1), decide (p1 < (a0.fLists.length : Int))] (bif decide ((((a0.fLists.getD p1.toNat default).fRules).length : Int) > 20) then (some (.inr (.inr false))) else (some (.inl (wr .i64 (p1 + 1)))))) else (some (.inr (.inl ())))
noncomputable def M.law5_Small_l2 (a0 : TRouter) (p6 : Int) : Option (Int ⊕ (Unit ⊕ Bool)) :=
  bif decide (p6 < (a0.fMaps.length : Int)) then (gd [decide (0 ≤ p6), decide (p6 < (a0.fMaps.length : Int))] (bif decide ((((a0.fMaps.getD p6.toNat default).fClauses).length : Int) > 12) then (some (.inr (.inr false))) else (some (.inl (wr .i64 (p6 + 1)))))) else (some (.inr (.inl ())))
noncomputable def M.law5_Small_l3 (a0 : TRouter) (p11 : Int) : Option (Int ⊕ (Unit ⊕ Bool)) :=
  bif decide (p11 < (a0.fACLs.length : Int)) then (gd [decide (0 ≤ p11), decide (p11 < (a0.fACLs.length : Int))] (bif decide ((((a0.fACLs.getD p11.toNat default).fRules).length : Int) > 20) then (some (.inr (.inr false))) else (some (.inl (wr .i64 (p11 + 1)))))) else (some (.inr (.inl ())))
noncomputable def M.law5_Small (a0 : TRouter) : Option Bool :=
  bif (((((((((((((decide ((a0.fInterfaces.length : Int) > 12)) || (decide ((a0.fLists.length : Int) > 12))) || (decide ((a0.fMaps.length : Int) > 12))) || (decide ((a0.fACLs.length : Int) > 12))) || (decide ((a0.fNAT.length : Int) > 12))) || (decide ((a0.fStatics.length : Int) > 20))) || (decide ((a0.fLS.fRanges.length : Int) > 8))) || (decide ((a0.fLS.fRedist.length : Int) > 8))) || (decide ((a0.fDV.fRedist.length : Int) > 8))) || (decide ((a0.fPV.fRedist.length : Int) > 8))) || (decide ((a0.fPV.fNeighbors.length : Int) > 12))) || (decide ((a0.fPV.fNetworks.length : Int) > 12))) || (decide ((a0.fPV.fAggregates.length : Int) > 12))) || (decide ((a0.fPV.fConditions.length : Int) > 12)) then (some false) else ((loopM (M.law5_Small_l1 a0) 0).bind fun y3 => Sum.elim (fun g4 => (loopM (M.law5_Small_l2 a0) 0).bind fun y8 => Sum.elim (fun g9 => (loopM (M.law5_Small_l3 a0) 0).bind fun y13 => Sum.elim (fun g14 => some true) (fun y15 => some y15) y13) (fun y10 => some y10) y8) (fun y5 => some y5) y3)
theorem law5_Small_ok (a0 : TRouter) (r : Bool) (h : M.law5_Small a0 = some r) : Fn Try.prog 8 [.agg (c_TRouter a0)] (.pure (.bool r)) := by
  unfold M.law5_Small at h
  refine fn_pure Try.func8 rfl (by kernel_rfl) ?_
  refine awp_seq ?_
  refine awp_reg [] [1] 1 ⟨141, [(1, .ref 0 0)], [.box (c_TRouter a0)]⟩ [] [] (by kernel_rfl) nil_all trivial ?_
  refine then_n ?_
  refine awp_seq ?_
  refine awp_seq ?_
  refine awp_reg [] [1, 95] 1 ⟨141, [(1, .ref 0 0), (95, .bool ((((((((((((((decide ((a0.fInterfaces.length : Int) > 12)) || (decide ((a0.fLists.length : Int) > 12))) || (decide ((a0.fMaps.length : Int) > 12))) || (decide ((a0.fACLs.length : Int) > 12))) || (decide ((a0.fNAT.length : Int) > 12))) || (decide ((a0.fStatics.length : Int) > 20))) || (decide ((a0.fLS.fRanges.length : Int) > 8))) || (decide ((a0.fLS.fRedist.length : Int) > 8))) || (decide ((a0.fDV.fRedist.length : Int) > 8))) || (decide ((a0.fPV.fRedist.length : Int) > 8))) || (decide ((a0.fPV.fNeighbors.length : Int) > 12))) || (decide ((a0.fPV.fNetworks.length : Int) > 12))) || (decide ((a0.fPV.fAggregates.length : Int) > 12))) || (decide ((a0.fPV.fConditions.length : Int) > 12))))], [.box (c_TRouter a0)]⟩ [] [] (by kernel_rfl) nil_all trivial ?_
  refine then_n ?_
  refine awp_cond (b := (((((((((((((decide ((a0.fInterfaces.length : Int) > 12)) || (decide ((a0.fLists.length : Int) > 12))) || (decide ((a0.fMaps.length : Int) > 12))) || (decide ((a0.fACLs.length : Int) > 12))) || (decide ((a0.fNAT.length : Int) > 12))) || (decide ((a0.fStatics.length : Int) > 20))) || (decide ((a0.fLS.fRanges.length : Int) > 8))) || (decide ((a0.fLS.fRedist.length : Int) > 8))) || (decide ((a0.fDV.fRedist.length : Int) > 8))) || (decide ((a0.fPV.fRedist.length : Int) > 8))) || (decide ((a0.fPV.fNeighbors.length : Int) > 12))) || (decide ((a0.fPV.fNetworks.length : Int) > 12))) || (decide ((a0.fPV.fAggregates.length : Int) > 12))) || (decide ((a0.fPV.fConditions.length : Int) > 12))) (by kernel_rfl) (fun b1 => ?_) (fun b1 => ?_)
  · have h2 := cond_t b1 h
    refine awp_seq ?_
    refine awp_reg [] [2] 0 ⟨141, [(2, .bool false)], []⟩ [] [] (by kernel_rfl) nil_all trivial ?_
    refine then_n ?_
    refine awp_ret ?_
    refine then_r ?_
    obtain rfl := Option.some.inj h2
    exact ends_r (.bool false) (by kernel_rfl) Sub.rfl
  · have h3 := cond_f b1 h
    refine awp_skip ?_
    refine then_n ?_
    refine awp_seq ?_
    refine awp_seq ?_
    refine awp_reg [] [1, 3] 1 ⟨141, [(1, .ref 0 0), (3, .int .i64 0)], [.box (c_TRouter a0)]⟩ [] [] (by kernel_rfl) nil_all trivial ?_
    refine then_n ?_
    refine awp_block ?_
    obtain ⟨y3, q13, h14⟩ := bind_some h3
    refine awp_le (s' := ⟨141, [(1, .ref 0 0), (3, .int .i64 0)], [.box (c_TRouter a0)]⟩) (le_rfl) ?_
    refine awp_mono (awp_loop (f := M.law5_Small_l1 a0) (S := fun (p1 : Int) => ⟨141, [(1, .ref 0 0), (3, .int .i64 p1)], [.box (c_TRouter a0)]⟩) (O := (Sum.elim (fun z => OutE 0 (fun z => ⟨141, [(1, .ref 0 0)], [.box (c_TRouter a0)]⟩) z) (fun z => OutR Try.prog Try.f8 (.bool z)))) ?_ (x := 0) (y := y3) (loopM_iter q13)) ?_
    · intro p1 y2 h4
      unfold M.law5_Small_l1 at h4
      refine awp_seq ?_
      refine awp_seq ?_
      refine awp_reg [] [1, 3, 100] 1 ⟨141, [(1, .ref 0 0), (3, .int .i64 p1), (100, .bool (decide (p1 < (a0.fLists.length : Int))))], [.box (c_TRouter a0)]⟩ [] [] (by kernel_rfl) nil_all trivial ?_
      refine then_n ?_
      refine awp_cond (b := decide (p1 < (a0.fLists.length : Int))) (by kernel_rfl) (fun b5 => ?_) (fun b5 => ?_)
      · have h6 := cond_t b5 h4
        refine awp_skip ?_
        refine then_n ?_
        refine awp_seq ?_
        refine awp_block ?_
        refine awp_seq ?_
        obtain ⟨c8, h9⟩ := gd_some h6
        refine awp_reg [] [1, 3, 110] 1 ⟨141, [(1, .ref 0 0), (3, .int .i64 p1), (110, .bool (decide ((((a0.fLists.getD p1.toNat default).fRules).length : Int) > 20)))], [.box (c_TRouter a0)]⟩ [decide (0 ≤ p1), decide (p1 < (a0.fLists.length : Int))] [] (by kernel_rfl) c8 trivial ?_
        refine then_n ?_
        refine awp_cond (b := decide ((((a0.fLists.getD p1.toNat default).fRules).length : Int) > 20)) (by kernel_rfl) (fun b10 => ?_) (fun b10 => ?_)
        · have h11 := cond_t b10 h9
          refine awp_seq ?_
          refine awp_reg [] [2] 0 ⟨141, [(2, .bool false)], []⟩ [] [] (by kernel_rfl) nil_all trivial ?_
          refine then_n ?_
          refine awp_ret ?_
          refine inb_r ?_
          refine then_r ?_
          obtain rfl := Option.some.inj h11
          exact round_r ⟨rfl, ends_r (.bool false) (by kernel_rfl) Sub.rfl⟩
        · have h12 := cond_f b10 h9
          refine awp_skip ?_
          refine inb_n ?_
          refine then_n ?_
          refine awp_reg [] [1, 3] 1 ⟨141, [(1, .ref 0 0), (3, .int .i64 (wr .i64 (p1 + 1)))], [.box (c_TRouter a0)]⟩ [] [] (by kernel_rfl) nil_all trivial ?_
          obtain rfl := Option.some.inj h12
          exact round_n (le_rfl)
      · have h7 := cond_f b5 h4
        refine awp_exit ?_
        refine then_e ?_
        obtain rfl := Option.some.inj h7
        exact round_e ⟨rfl, le_keep' [1] (by kernel_rfl)⟩
    · intro e15 s16 o17
      rcases y3 with g4 | y5
      · have h18 := elim_l h14
        obtain ⟨rfl, l20⟩ := o17
        refine inb_here ?_
        refine then_le (s' := ⟨141, [(1, .ref 0 0)], [.box (c_TRouter a0)]⟩) (l20) ?_
        refine awp_seq ?_
        refine awp_seq ?_
        refine awp_reg [] [1, 4] 1 ⟨141, [(1, .ref 0 0), (4, .int .i64 0)], [.box (c_TRouter a0)]⟩ [] [] (by kernel_rfl) nil_all trivial ?_
        refine then_n ?_
        refine awp_block ?_
        obtain ⟨y8, q30, h31⟩ := bind_some h18
        refine awp_le (s' := ⟨141, [(1, .ref 0 0), (4, .int .i64 0)], [.box (c_TRouter a0)]⟩) (le_rfl) ?_
        refine awp_mono (awp_loop (f := M.law5_Small_l2 a0) (S := fun (p6 : Int) => ⟨141, [(1, .ref 0 0), (4, .int .i64 p6)], [.box (c_TRouter a0)]⟩) (O := (Sum.elim (fun z => OutE 2 (fun z => ⟨141, [(1, .ref 0 0)], [.box (c_TRouter a0)]⟩) z) (fun z => OutR Try.prog Try.f8 (.bool z)))) ?_ (x := 0) (y := y8) (loopM_iter q30)) ?_
        · intro p6 y7 h21
          unfold M.law5_Small_l2 at h21
          refine awp_seq ?_
          refine awp_seq ?_
          refine awp_reg [] [1, 4, 115] 1 ⟨141, [(1, .ref 0 0), (4, .int .i64 p6), (115, .bool (decide (p6 < (a0.fMaps.length : Int))))], [.box (c_TRouter a0)]⟩ [] [] (by kernel_rfl) nil_all trivial ?_
          refine then_n ?_
          refine awp_cond (b := decide (p6 < (a0.fMaps.length : Int))) (by kernel_rfl) (fun b22 => ?_) (fun b22 => ?_)
          · have h23 := cond_t b22 h21
            refine awp_skip ?_
            refine then_n ?_
            refine awp_seq ?_
            refine awp_block ?_
            refine awp_seq ?_
            obtain ⟨c25, h26⟩ := gd_some h23
            refine awp_reg [] [1, 4, 125] 1 ⟨141, [(1, .ref 0 0), (4, .int .i64 p6), (125, .bool (decide ((((a0.fMaps.getD p6.toNat default).fClauses).length : Int) > 12)))], [.box (c_TRouter a0)]⟩ [decide (0 ≤ p6), decide (p6 < (a0.fMaps.length : Int))] [] (by kernel_rfl) c25 trivial ?_
            refine then_n ?_
            refine awp_cond (b := decide ((((a0.fMaps.getD p6.toNat default).fClauses).length : Int) > 12)) (by kernel_rfl) (fun b27 => ?_) (fun b27 => ?_)
            · have h28 := cond_t b27 h26
              refine awp_seq ?_
              refine awp_reg [] [2] 0 ⟨141, [(2, .bool false)], []⟩ [] [] (by kernel_rfl) nil_all trivial ?_
              refine then_n ?_
              refine awp_ret ?_
              refine inb_r ?_
              refine then_r ?_
              obtain rfl := Option.some.inj h28
              exact round_r ⟨rfl, ends_r (.bool false) (by kernel_rfl) Sub.rfl⟩
            · have h29 := cond_f b27 h26
              refine awp_skip ?_
              refine inb_n ?_
              refine then_n ?_
              refine awp_reg [] [1, 4] 1 ⟨141, [(1, .ref 0 0), (4, .int .i64 (wr .i64 (p6 + 1)))], [.box (c_TRouter a0)]⟩ [] [] (by kernel_rfl) nil_all trivial ?_
              obtain rfl := Option.some.inj h29
              exact round_n (le_rfl)
          · have h24 := cond_f b22 h21
            refine awp_exit ?_
            refine then_e ?_
            obtain rfl := Option.some.inj h24
            exact round_e ⟨rfl, le_keep' [1] (by kernel_rfl)⟩
        · intro e32 s33 o34
          rcases y8 with g9 | y10
          · have h35 := elim_l h31
            obtain ⟨rfl, l37⟩ := o34
            refine inb_here ?_
            refine then_le (s' := ⟨141, [(1, .ref 0 0)], [.box (c_TRouter a0)]⟩) (l37) ?_
            refine awp_seq ?_
            refine awp_seq ?_
            refine awp_reg [] [1, 5] 1 ⟨141, [(1, .ref 0 0), (5, .int .i64 0)], [.box (c_TRouter a0)]⟩ [] [] (by kernel_rfl) nil_all trivial ?_
            refine then_n ?_
            refine awp_block ?_
            obtain ⟨y13, q47, h48⟩ := bind_some h35
            refine awp_le (s' := ⟨141, [(1, .ref 0 0), (5, .int .i64 0)], [.box (c_TRouter a0)]⟩) (le_rfl) ?_
            refine awp_mono (awp_loop (f := M.law5_Small_l3 a0) (S := fun (p11 : Int) => ⟨141, [(1, .ref 0 0), (5, .int .i64 p11)], [.box (c_TRouter a0)]⟩) (O := (Sum.elim (fun z => OutE 4 (fun z => ⟨141, [], []⟩) z) (fun z => OutR Try.prog Try.f8 (.bool z)))) ?_ (x := 0) (y := y13) (loopM_iter q47)) ?_
            · intro p11 y12 h38
              unfold M.law5_Small_l3 at h38
              refine awp_seq ?_
              refine awp_seq ?_
              refine awp_reg [] [1, 5, 130] 1 ⟨141, [(1, .ref 0 0), (5, .int .i64 p11), (130, .bool (decide (p11 < (a0.fACLs.length : Int))))], [.box (c_TRouter a0)]⟩ [] [] (by kernel_rfl) nil_all trivial ?_
              refine then_n ?_
              refine awp_cond (b := decide (p11 < (a0.fACLs.length : Int))) (by kernel_rfl) (fun b39 => ?_) (fun b39 => ?_)
              · have h40 := cond_t b39 h38
                refine awp_skip ?_
                refine then_n ?_
                refine awp_seq ?_
                refine awp_block ?_
                refine awp_seq ?_
                obtain ⟨c42, h43⟩ := gd_some h40
                refine awp_reg [] [1, 5, 140] 1 ⟨141, [(1, .ref 0 0), (5, .int .i64 p11), (140, .bool (decide ((((a0.fACLs.getD p11.toNat default).fRules).length : Int) > 20)))], [.box (c_TRouter a0)]⟩ [decide (0 ≤ p11), decide (p11 < (a0.fACLs.length : Int))] [] (by kernel_rfl) c42 trivial ?_
                refine then_n ?_
                refine awp_cond (b := decide ((((a0.fACLs.getD p11.toNat default).fRules).length : Int) > 20)) (by kernel_rfl) (fun b44 => ?_) (fun b44 => ?_)
                · have h45 := cond_t b44 h43
                  refine awp_seq ?_
                  refine awp_reg [] [2] 0 ⟨141, [(2, .bool false)], []⟩ [] [] (by kernel_rfl) nil_all trivial ?_
                  refine then_n ?_
                  refine awp_ret ?_
                  refine inb_r ?_
                  refine then_r ?_
                  obtain rfl := Option.some.inj h45
                  exact round_r ⟨rfl, ends_r (.bool false) (by kernel_rfl) Sub.rfl⟩
                · have h46 := cond_f b44 h43
                  refine awp_skip ?_
                  refine inb_n ?_
                  refine then_n ?_
                  refine awp_reg [] [1, 5] 1 ⟨141, [(1, .ref 0 0), (5, .int .i64 (wr .i64 (p11 + 1)))], [.box (c_TRouter a0)]⟩ [] [] (by kernel_rfl) nil_all trivial ?_
                  obtain rfl := Option.some.inj h46
                  exact round_n (le_rfl)
              · have h41 := cond_f b39 h38
                refine awp_exit ?_
                refine then_e ?_
                obtain rfl := Option.some.inj h41
                exact round_e ⟨rfl, Le.trans (s' := ⟨141, [], [.box (c_TRouter a0)]⟩) (le_keep' [] (by kernel_rfl)) (le_cut (n := 0) (by kernel_rfl))⟩
            · intro e49 s50 o51
              rcases y13 with g14 | y15
              · have h52 := elim_l h48
                obtain ⟨rfl, l54⟩ := o51
                refine inb_here ?_
                refine then_le (s' := ⟨141, [], []⟩) (l54) ?_
                refine awp_seq ?_
                refine awp_reg [] [2] 0 ⟨141, [(2, .bool true)], []⟩ [] [] (by kernel_rfl) nil_all trivial ?_
                refine then_n ?_
                refine awp_ret ?_
                obtain rfl := Option.some.inj h52
                exact ends_r (.bool true) (by kernel_rfl) Sub.rfl
              · have h53 := elim_r h48
                obtain ⟨rfl, n55⟩ := o51
                refine inb_r ?_
                refine then_r ?_
                obtain rfl := Option.some.inj h53
                exact n55
          · have h36 := elim_r h31
            obtain ⟨rfl, n56⟩ := o34
            refine inb_r ?_
            refine then_r ?_
            obtain rfl := Option.some.inj h36
            exact n56
      · have h19 := elim_r h14
        obtain ⟨rfl, n57⟩ := o17
        refine inb_r ?_
        refine then_r ?_
        obtain rfl := Option.some.inj h19
        exact n57

/- netverify/model.Interface$1 -/
noncomputable def M.model_Interface_1 (a0 : TInterface) (b0 : ByteArray) : Option Bool :=
  some (strEq a0.fName b0)
theorem model_Interface_1_ok (a0 : TInterface) (b0 : ByteArray) (r : Bool) (h : M.model_Interface_1 a0 b0 = some r) : Fn Try.prog 51 [.agg (c_TInterface a0), .pp (cs b0)] (.pure (.bool r)) := by
  unfold M.model_Interface_1 at h
  refine fn_pure Try.func51 rfl (by kernel_rfl) ?_
  refine awp_seq ?_
  refine awp_reg [] [1, 2] 1 ⟨8, [(1, .pp (cs b0)), (2, .ref 0 0)], [.box (c_TInterface a0)]⟩ [] [] (by kernel_rfl) nil_all trivial ?_
  refine then_n ?_
  refine awp_seq ?_
  refine awp_reg [] [3] 0 ⟨8, [(3, .bool (strEq a0.fName b0))], []⟩ [] [] (by kernel_rfl) nil_all trivial ?_
  refine then_n ?_
  refine awp_ret ?_
  obtain rfl := Option.some.inj h
  exact ends_r (.bool (strEq a0.fName b0)) (by kernel_rfl) Sub.rfl

/- slices.IndexFunc[[]netverify/api.Interface,netverify/api.Interface] -/
noncomputable def M.slices_IndexFunc_api_Interface_api_Interface__model_Interface_1_l1 (a0 : List TInterface) (a1c0 : ByteArray) (p1 : Int) : Option (Int ⊕ (Unit ⊕ Int)) :=
  bif decide (p1 < (a0.length : Int)) then ((M.model_Interface_1 (a0.getD p1.toNat default) a1c0).bind fun r3 => gd [decide (0 ≤ p1), decide (p1 < (a0.length : Int))] (bif r3 then (some (.inr (.inr p1))) else (some (.inl (wr .i64 (p1 + 1)))))) else (some (.inr (.inl ())))
noncomputable def M.slices_IndexFunc_api_Interface_api_Interface__model_Interface_1 (a0 : List TInterface) (a1c0 : ByteArray) : Option Int :=
  (loopM (M.slices_IndexFunc_api_Interface_api_Interface__model_Interface_1_l1 a0 a1c0) 0).bind fun y4 => Sum.elim (fun g5 => some (-1)) (fun y6 => some y6) y4
theorem slices_IndexFunc_api_Interface_api_Interface__model_Interface_1_ok (a0 : List TInterface) (a1c0 : ByteArray) (r : Int) (h : M.slices_IndexFunc_api_Interface_api_Interface__model_Interface_1 a0 a1c0 = some r) : Fn Try.prog 50 [sL 12 c_TInterface a0, .fn 51 [.pp (cs a1c0)]] (.pure (.int .i64 r)) := by
  unfold M.slices_IndexFunc_api_Interface_api_Interface__model_Interface_1 at h
  refine fn_pure Try.func50 rfl (by kernel_rfl) ?_
  refine awp_seq ?_
  refine awp_reg [] [0, 1] 0 ⟨19, [(0, sL 12 c_TInterface a0), (1, .fn 51 [.pp (cs a1c0)])], []⟩ [] [] (by kernel_rfl) nil_all trivial ?_
  refine then_n ?_
  refine awp_seq ?_
  refine awp_seq ?_
  refine awp_reg [] [0, 1, 7, 8] 0 ⟨19, [(0, sL 12 c_TInterface a0), (1, .fn 51 [.pp (cs a1c0)]), (7, .int .i64 (a0.length : Int)), (8, .int .i64 0)], []⟩ [] [] (by kernel_rfl) nil_all trivial ?_
  refine then_n ?_
  refine awp_block ?_
  obtain ⟨y4, q12, h13⟩ := bind_some h
  refine awp_le (s' := ⟨19, [(0, sL 12 c_TInterface a0), (1, .fn 51 [.pp (cs a1c0)]), (7, .int .i64 (a0.length : Int)), (8, .int .i64 0)], []⟩) (le_rfl) ?_
  refine awp_mono (awp_loop (f := M.slices_IndexFunc_api_Interface_api_Interface__model_Interface_1_l1 a0 a1c0) (S := fun (p1 : Int) => ⟨19, [(0, sL 12 c_TInterface a0), (1, .fn 51 [.pp (cs a1c0)]), (7, .int .i64 (a0.length : Int)), (8, .int .i64 p1)], []⟩) (O := (Sum.elim (fun z => OutE 0 (fun z => ⟨19, [], []⟩) z) (fun z => OutR Try.prog Try.f50 (.int .i64 z)))) ?_ (x := 0) (y := y4) (loopM_iter q12)) ?_
  · intro p1 y2 h1
    unfold M.slices_IndexFunc_api_Interface_api_Interface__model_Interface_1_l1 at h1
    refine awp_seq ?_
    refine awp_reg [] [0, 1, 7, 8, 9] 0 ⟨19, [(0, sL 12 c_TInterface a0), (1, .fn 51 [.pp (cs a1c0)]), (7, .int .i64 (a0.length : Int)), (8, .int .i64 p1), (9, .bool (decide (p1 < (a0.length : Int))))], []⟩ [] [] (by kernel_rfl) nil_all trivial ?_
    refine then_n ?_
    refine awp_seq ?_
    refine awp_cond (b := decide (p1 < (a0.length : Int))) (by kernel_rfl) (fun b2 => ?_) (fun b2 => ?_)
    · have h3 := cond_t b2 h1
      refine awp_skip ?_
      refine then_n ?_
      refine awp_seq ?_
      refine awp_block ?_
      refine awp_seq ?_
      refine awp_reg [] [0, 1, 5, 7, 8] 0 ⟨19, [(0, sL 12 c_TInterface a0), (1, .fn 51 [.pp (cs a1c0)]), (5, .int .i64 p1), (7, .int .i64 (a0.length : Int)), (8, .int .i64 p1)], []⟩ [] [] (by kernel_rfl) nil_all trivial ?_
      refine then_n ?_
      refine awp_seq ?_
      obtain ⟨r3, q5, h6⟩ := bind_some h3
      obtain ⟨c7, h8⟩ := gd_some h6
      refine awp_reg [.pure (.bool r3)] [0, 1, 5, 7, 8, 16] 0 ⟨19, [(0, sL 12 c_TInterface a0), (1, .fn 51 [.pp (cs a1c0)]), (5, .int .i64 p1), (7, .int .i64 (a0.length : Int)), (8, .int .i64 p1), (16, .bool r3)], []⟩ [decide (0 ≤ p1), decide (p1 < (a0.length : Int))] [⟨true, 51, [.agg (c_TInterface (a0.getD p1.toNat default)), .pp (cs a1c0)], .pure (.bool r3)⟩] (by kernel_rfl) c7 ⟨fun _ => model_Interface_1_ok (a0.getD p1.toNat default) a1c0 r3 q5, trivial⟩ ?_
      refine then_n ?_
      refine awp_cond (b := r3) (by kernel_rfl) (fun b9 => ?_) (fun b9 => ?_)
      · have h10 := cond_t b9 h8
        refine awp_seq ?_
        refine awp_reg [] [4] 0 ⟨19, [(4, .int .i64 p1)], []⟩ [] [] (by kernel_rfl) nil_all trivial ?_
        refine then_n ?_
        refine awp_ret ?_
        refine inb_r ?_
        refine then_r ?_
        obtain rfl := Option.some.inj h10
        exact round_r ⟨rfl, ends_r (.int .i64 p1) (by kernel_rfl) Sub.rfl⟩
      · have h11 := cond_f b9 h8
        refine awp_skip ?_
        refine inb_n ?_
        refine then_n ?_
        refine awp_reg [] [0, 1, 7, 8] 0 ⟨19, [(0, sL 12 c_TInterface a0), (1, .fn 51 [.pp (cs a1c0)]), (7, .int .i64 (a0.length : Int)), (8, .int .i64 (wr .i64 (p1 + 1)))], []⟩ [] [] (by kernel_rfl) nil_all trivial ?_
        obtain rfl := Option.some.inj h11
        exact round_n (le_rfl)
    · have h4 := cond_f b2 h1
      refine awp_exit ?_
      refine then_e ?_
      obtain rfl := Option.some.inj h4
      exact round_e ⟨rfl, le_keep' [] (by kernel_rfl)⟩
  · intro e14 s15 o16
    rcases y4 with g5 | y6
    · have h17 := elim_l h13
      obtain ⟨rfl, l19⟩ := o16
      refine inb_here ?_
      refine then_le (s' := ⟨19, [], []⟩) (l19) ?_
      refine awp_seq ?_
      refine awp_reg [] [4] 0 ⟨19, [(4, .int .i64 (-1))], []⟩ [] [] (by kernel_rfl) nil_all trivial ?_
      refine then_n ?_
      refine awp_ret ?_
      obtain rfl := Option.some.inj h17
      exact ends_r (.int .i64 (-1)) (by kernel_rfl) Sub.rfl
    · have h18 := elim_r h13
      obtain ⟨rfl, n20⟩ := o16
      refine inb_r ?_
      refine then_r ?_
      obtain rfl := Option.some.inj h18
      exact n20

/- netverify/model.Interface -/
noncomputable def M.model_Interface (a0 : TRouter) (a1 : ByteArray) : Option Int :=
  (M.slices_IndexFunc_api_Interface_api_Interface__model_Interface_1 a0.fInterfaces a1).bind fun r1 => some r1
theorem model_Interface_ok (a0 : TRouter) (a1 : ByteArray) (r : Int) (h : M.model_Interface a0 a1 = some r) : Fn Try.prog 15 [.agg (c_TRouter a0), .str a1] (.pure (.int .i64 r)) := by
  unfold M.model_Interface at h
  refine fn_pure Try.func15 rfl (by kernel_rfl) ?_
  refine awp_seq ?_
  refine awp_reg [] [2, 3] 2 ⟨9, [(2, .ref 0 0), (3, .ref 1 0)], [.box (c_TRouter a0), .box [.str a1]]⟩ [] [] (by kernel_rfl) nil_all trivial ?_
  refine then_n ?_
  refine awp_seq ?_
  obtain ⟨r1, q1, h2⟩ := bind_some h
  refine awp_reg [.pure (.int .i64 r1)] [4] 0 ⟨9, [(4, .int .i64 r1)], []⟩ [] [⟨true, 50, [sL 12 c_TInterface a0.fInterfaces, .fn 51 [.pp (cs a1)]], .pure (.int .i64 r1)⟩] (by kernel_rfl) nil_all ⟨fun _ => slices_IndexFunc_api_Interface_api_Interface__model_Interface_1_ok a0.fInterfaces a1 r1 q1, trivial⟩ ?_
  refine then_n ?_
  refine awp_ret ?_
  obtain rfl := Option.some.inj h2
  exact ends_r (.int .i64 r1) (by kernel_rfl) Sub.rfl

/- netverify/netverifyref8.Interface -/
noncomputable def M.ref8_Interface_l1 (a0 : TRouter) (a1 : ByteArray) (p1 : Int) : Option (Int ⊕ (Unit ⊕ Int)) :=
  bif decide (p1 < (a0.fInterfaces.length : Int)) then (gd [decide (0 ≤ p1), decide (p1 < (a0.fInterfaces.length : Int))] (bif strEq ((a0.fInterfaces.getD p1.toNat default).fName) a1 then (some (.inr (.inr p1))) else (some (.inl (wr .i64 (p1 + 1)))))) else (some (.inr (.inl ())))
noncomputable def M.ref8_Interface (a0 : TRouter) (a1 : ByteArray) : Option Int :=
  (loopM (M.ref8_Interface_l1 a0 a1) 0).bind fun y3 => Sum.elim (fun g4 => some (-1)) (fun y5 => some y5) y3
theorem ref8_Interface_ok (a0 : TRouter) (a1 : ByteArray) (r : Int) (h : M.ref8_Interface a0 a1 = some r) : Fn Try.prog 16 [.agg (c_TRouter a0), .str a1] (.pure (.int .i64 r)) := by
  unfold M.ref8_Interface at h
  refine fn_pure Try.func16 rfl (by kernel_rfl) ?_
  refine awp_seq ?_
  refine awp_reg [] [1, 2] 1 ⟨22, [(1, .str a1), (2, .ref 0 0)], [.box (c_TRouter a0)]⟩ [] [] (by kernel_rfl) nil_all trivial ?_
  refine then_n ?_
  refine awp_seq ?_
  refine awp_seq ?_
  refine awp_reg [] [1, 2, 5] 1 ⟨22, [(1, .str a1), (2, .ref 0 0), (5, .int .i64 0)], [.box (c_TRouter a0)]⟩ [] [] (by kernel_rfl) nil_all trivial ?_
  refine then_n ?_
  refine awp_block ?_
  obtain ⟨y3, q10, h11⟩ := bind_some h
  refine awp_le (s' := ⟨22, [(1, .str a1), (2, .ref 0 0), (5, .int .i64 0)], [.box (c_TRouter a0)]⟩) (le_rfl) ?_
  refine awp_mono (awp_loop (f := M.ref8_Interface_l1 a0 a1) (S := fun (p1 : Int) => ⟨22, [(1, .str a1), (2, .ref 0 0), (5, .int .i64 p1)], [.box (c_TRouter a0)]⟩) (O := (Sum.elim (fun z => OutE 0 (fun z => ⟨22, [], []⟩) z) (fun z => OutR Try.prog Try.f16 (.int .i64 z)))) ?_ (x := 0) (y := y3) (loopM_iter q10)) ?_
  · intro p1 y2 h1
    unfold M.ref8_Interface_l1 at h1
    refine awp_seq ?_
    refine awp_seq ?_
    refine awp_reg [] [1, 2, 5, 10] 1 ⟨22, [(1, .str a1), (2, .ref 0 0), (5, .int .i64 p1), (10, .bool (decide (p1 < (a0.fInterfaces.length : Int))))], [.box (c_TRouter a0)]⟩ [] [] (by kernel_rfl) nil_all trivial ?_
    refine then_n ?_
    refine awp_cond (b := decide (p1 < (a0.fInterfaces.length : Int))) (by kernel_rfl) (fun b2 => ?_) (fun b2 => ?_)
    · have h3 := cond_t b2 h1
      refine awp_skip ?_
      refine then_n ?_
      refine awp_seq ?_
      refine awp_block ?_
      refine awp_seq ?_
      obtain ⟨c5, h6⟩ := gd_some h3
      refine awp_reg [] [1, 2, 5, 20] 1 ⟨22, [(1, .str a1), (2, .ref 0 0), (5, .int .i64 p1), (20, .bool (strEq ((a0.fInterfaces.getD p1.toNat default).fName) a1))], [.box (c_TRouter a0)]⟩ [decide (0 ≤ p1), decide (p1 < (a0.fInterfaces.length : Int))] [] (by kernel_rfl) c5 trivial ?_
      refine then_n ?_
      refine awp_cond (b := strEq ((a0.fInterfaces.getD p1.toNat default).fName) a1) (by kernel_rfl) (fun b7 => ?_) (fun b7 => ?_)
      · have h8 := cond_t b7 h6
        refine awp_seq ?_
        refine awp_reg [] [4] 0 ⟨22, [(4, .int .i64 p1)], []⟩ [] [] (by kernel_rfl) nil_all trivial ?_
        refine then_n ?_
        refine awp_ret ?_
        refine inb_r ?_
        refine then_r ?_
        obtain rfl := Option.some.inj h8
        exact round_r ⟨rfl, ends_r (.int .i64 p1) (by kernel_rfl) Sub.rfl⟩
      · have h9 := cond_f b7 h6
        refine awp_skip ?_
        refine inb_n ?_
        refine then_n ?_
        refine awp_reg [] [1, 2, 5] 1 ⟨22, [(1, .str a1), (2, .ref 0 0), (5, .int .i64 (wr .i64 (p1 + 1)))], [.box (c_TRouter a0)]⟩ [] [] (by kernel_rfl) nil_all trivial ?_
        obtain rfl := Option.some.inj h9
        exact round_n (le_rfl)
    · have h4 := cond_f b2 h1
      refine awp_exit ?_
      refine then_e ?_
      obtain rfl := Option.some.inj h4
      exact round_e ⟨rfl, Le.trans (s' := ⟨22, [], [.box (c_TRouter a0)]⟩) (le_keep' [] (by kernel_rfl)) (le_cut (n := 0) (by kernel_rfl))⟩
  · intro e12 s13 o14
    rcases y3 with g4 | y5
    · have h15 := elim_l h11
      obtain ⟨rfl, l17⟩ := o14
      refine inb_here ?_
      refine then_le (s' := ⟨22, [], []⟩) (l17) ?_
      refine awp_seq ?_
      refine awp_reg [] [4] 0 ⟨22, [(4, .int .i64 (-1))], []⟩ [] [] (by kernel_rfl) nil_all trivial ?_
      refine then_n ?_
      refine awp_ret ?_
      obtain rfl := Option.some.inj h15
      exact ends_r (.int .i64 (-1)) (by kernel_rfl) Sub.rfl
    · have h16 := elim_r h11
      obtain ⟨rfl, n18⟩ := o14
      refine inb_r ?_
      refine then_r ?_
      obtain rfl := Option.some.inj h16
      exact n18

/- netverify/model.PrefixList$1 -/
noncomputable def M.model_PrefixList_1 (a0 : TPrefixList) (b0 : ByteArray) : Option Bool :=
  some (strEq a0.fName b0)
theorem model_PrefixList_1_ok (a0 : TPrefixList) (b0 : ByteArray) (r : Bool) (h : M.model_PrefixList_1 a0 b0 = some r) : Fn Try.prog 53 [.agg (c_TPrefixList a0), .pp (cs b0)] (.pure (.bool r)) := by
  unfold M.model_PrefixList_1 at h
  refine fn_pure Try.func53 rfl (by kernel_rfl) ?_
  refine awp_seq ?_
  refine awp_reg [] [1, 2] 1 ⟨8, [(1, .pp (cs b0)), (2, .ref 0 0)], [.box (c_TPrefixList a0)]⟩ [] [] (by kernel_rfl) nil_all trivial ?_
  refine then_n ?_
  refine awp_seq ?_
  refine awp_reg [] [3] 0 ⟨8, [(3, .bool (strEq a0.fName b0))], []⟩ [] [] (by kernel_rfl) nil_all trivial ?_
  refine then_n ?_
  refine awp_ret ?_
  obtain rfl := Option.some.inj h
  exact ends_r (.bool (strEq a0.fName b0)) (by kernel_rfl) Sub.rfl

/- slices.IndexFunc[[]netverify/api.PrefixList,netverify/api.PrefixList] -/
noncomputable def M.slices_IndexFunc_api_PrefixList_api_PrefixList__model_PrefixList_1_l1 (a0 : List TPrefixList) (a1c0 : ByteArray) (p1 : Int) : Option (Int ⊕ (Unit ⊕ Int)) :=
  bif decide (p1 < (a0.length : Int)) then ((M.model_PrefixList_1 (a0.getD p1.toNat default) a1c0).bind fun r3 => gd [decide (0 ≤ p1), decide (p1 < (a0.length : Int))] (bif r3 then (some (.inr (.inr p1))) else (some (.inl (wr .i64 (p1 + 1)))))) else (some (.inr (.inl ())))
noncomputable def M.slices_IndexFunc_api_PrefixList_api_PrefixList__model_PrefixList_1 (a0 : List TPrefixList) (a1c0 : ByteArray) : Option Int :=
  (loopM (M.slices_IndexFunc_api_PrefixList_api_PrefixList__model_PrefixList_1_l1 a0 a1c0) 0).bind fun y4 => Sum.elim (fun g5 => some (-1)) (fun y6 => some y6) y4
theorem slices_IndexFunc_api_PrefixList_api_PrefixList__model_PrefixList_1_ok (a0 : List TPrefixList) (a1c0 : ByteArray) (r : Int) (h : M.slices_IndexFunc_api_PrefixList_api_PrefixList__model_PrefixList_1 a0 a1c0 = some r) : Fn Try.prog 52 [sL 2 c_TPrefixList a0, .fn 53 [.pp (cs a1c0)]] (.pure (.int .i64 r)) := by
  unfold M.slices_IndexFunc_api_PrefixList_api_PrefixList__model_PrefixList_1 at h
  refine fn_pure Try.func52 rfl (by kernel_rfl) ?_
  refine awp_seq ?_
  refine awp_reg [] [0, 1] 0 ⟨19, [(0, sL 2 c_TPrefixList a0), (1, .fn 53 [.pp (cs a1c0)])], []⟩ [] [] (by kernel_rfl) nil_all trivial ?_
  refine then_n ?_
  refine awp_seq ?_
  refine awp_seq ?_
  refine awp_reg [] [0, 1, 7, 8] 0 ⟨19, [(0, sL 2 c_TPrefixList a0), (1, .fn 53 [.pp (cs a1c0)]), (7, .int .i64 (a0.length : Int)), (8, .int .i64 0)], []⟩ [] [] (by kernel_rfl) nil_all trivial ?_
  refine then_n ?_
  refine awp_block ?_
  obtain ⟨y4, q12, h13⟩ := bind_some h
  refine awp_le (s' := ⟨19, [(0, sL 2 c_TPrefixList a0), (1, .fn 53 [.pp (cs a1c0)]), (7, .int .i64 (a0.length : Int)), (8, .int .i64 0)], []⟩) (le_rfl) ?_
  refine awp_mono (awp_loop (f := M.slices_IndexFunc_api_PrefixList_api_PrefixList__model_PrefixList_1_l1 a0 a1c0) (S := fun (p1 : Int) => ⟨19, [(0, sL 2 c_TPrefixList a0), (1, .fn 53 [.pp (cs a1c0)]), (7, .int .i64 (a0.length : Int)), (8, .int .i64 p1)], []⟩) (O := (Sum.elim (fun z => OutE 0 (fun z => ⟨19, [], []⟩) z) (fun z => OutR Try.prog Try.f52 (.int .i64 z)))) ?_ (x := 0) (y := y4) (loopM_iter q12)) ?_
  · intro p1 y2 h1
    unfold M.slices_IndexFunc_api_PrefixList_api_PrefixList__model_PrefixList_1_l1 at h1
    refine awp_seq ?_
    refine awp_reg [] [0, 1, 7, 8, 9] 0 ⟨19, [(0, sL 2 c_TPrefixList a0), (1, .fn 53 [.pp (cs a1c0)]), (7, .int .i64 (a0.length : Int)), (8, .int .i64 p1), (9, .bool (decide (p1 < (a0.length : Int))))], []⟩ [] [] (by kernel_rfl) nil_all trivial ?_
    refine then_n ?_
    refine awp_seq ?_
    refine awp_cond (b := decide (p1 < (a0.length : Int))) (by kernel_rfl) (fun b2 => ?_) (fun b2 => ?_)
    · have h3 := cond_t b2 h1
      refine awp_skip ?_
      refine then_n ?_
      refine awp_seq ?_
      refine awp_block ?_
      refine awp_seq ?_
      refine awp_reg [] [0, 1, 5, 7, 8] 0 ⟨19, [(0, sL 2 c_TPrefixList a0), (1, .fn 53 [.pp (cs a1c0)]), (5, .int .i64 p1), (7, .int .i64 (a0.length : Int)), (8, .int .i64 p1)], []⟩ [] [] (by kernel_rfl) nil_all trivial ?_
      refine then_n ?_
      refine awp_seq ?_
      obtain ⟨r3, q5, h6⟩ := bind_some h3
      obtain ⟨c7, h8⟩ := gd_some h6
      refine awp_reg [.pure (.bool r3)] [0, 1, 5, 7, 8, 16] 0 ⟨19, [(0, sL 2 c_TPrefixList a0), (1, .fn 53 [.pp (cs a1c0)]), (5, .int .i64 p1), (7, .int .i64 (a0.length : Int)), (8, .int .i64 p1), (16, .bool r3)], []⟩ [decide (0 ≤ p1), decide (p1 < (a0.length : Int))] [⟨true, 53, [.agg (c_TPrefixList (a0.getD p1.toNat default)), .pp (cs a1c0)], .pure (.bool r3)⟩] (by kernel_rfl) c7 ⟨fun _ => model_PrefixList_1_ok (a0.getD p1.toNat default) a1c0 r3 q5, trivial⟩ ?_
      refine then_n ?_
      refine awp_cond (b := r3) (by kernel_rfl) (fun b9 => ?_) (fun b9 => ?_)
      · have h10 := cond_t b9 h8
        refine awp_seq ?_
        refine awp_reg [] [4] 0 ⟨19, [(4, .int .i64 p1)], []⟩ [] [] (by kernel_rfl) nil_all trivial ?_
        refine then_n ?_
        refine awp_ret ?_
        refine inb_r ?_
        refine then_r ?_
        obtain rfl := Option.some.inj h10
        exact round_r ⟨rfl, ends_r (.int .i64 p1) (by kernel_rfl) Sub.rfl⟩
      · have h11 := cond_f b9 h8
        refine awp_skip ?_
        refine inb_n ?_
        refine then_n ?_
        refine awp_reg [] [0, 1, 7, 8] 0 ⟨19, [(0, sL 2 c_TPrefixList a0), (1, .fn 53 [.pp (cs a1c0)]), (7, .int .i64 (a0.length : Int)), (8, .int .i64 (wr .i64 (p1 + 1)))], []⟩ [] [] (by kernel_rfl) nil_all trivial ?_
        obtain rfl := Option.some.inj h11
        exact round_n (le_rfl)
    · have h4 := cond_f b2 h1
      refine awp_exit ?_
      refine then_e ?_
      obtain rfl := Option.some.inj h4
      exact round_e ⟨rfl, le_keep' [] (by kernel_rfl)⟩
  · intro e14 s15 o16
    rcases y4 with g5 | y6
    · have h17 := elim_l h13
      obtain ⟨rfl, l19⟩ := o16
      refine inb_here ?_
      refine then_le (s' := ⟨19, [], []⟩) (l19) ?_
      refine awp_seq ?_
      refine awp_reg [] [4] 0 ⟨19, [(4, .int .i64 (-1))], []⟩ [] [] (by kernel_rfl) nil_all trivial ?_
      refine then_n ?_
      refine awp_ret ?_
      obtain rfl := Option.some.inj h17
      exact ends_r (.int .i64 (-1)) (by kernel_rfl) Sub.rfl
    · have h18 := elim_r h13
      obtain ⟨rfl, n20⟩ := o16
      refine inb_r ?_
      refine then_r ?_
      obtain rfl := Option.some.inj h18
      exact n20

/- netverify/model.PrefixList -/
noncomputable def M.model_PrefixList (a0 : TRouter) (a1 : ByteArray) : Option Int :=
  (M.slices_IndexFunc_api_PrefixList_api_PrefixList__model_PrefixList_1 a0.fLists a1).bind fun r1 => some r1
theorem model_PrefixList_ok (a0 : TRouter) (a1 : ByteArray) (r : Int) (h : M.model_PrefixList a0 a1 = some r) : Fn Try.prog 17 [.agg (c_TRouter a0), .str a1] (.pure (.int .i64 r)) := by
  unfold M.model_PrefixList at h
  refine fn_pure Try.func17 rfl (by kernel_rfl) ?_
  refine awp_seq ?_
  refine awp_reg [] [2, 3] 2 ⟨9, [(2, .ref 0 0), (3, .ref 1 0)], [.box (c_TRouter a0), .box [.str a1]]⟩ [] [] (by kernel_rfl) nil_all trivial ?_
  refine then_n ?_
  refine awp_seq ?_
  obtain ⟨r1, q1, h2⟩ := bind_some h
  refine awp_reg [.pure (.int .i64 r1)] [4] 0 ⟨9, [(4, .int .i64 r1)], []⟩ [] [⟨true, 52, [sL 2 c_TPrefixList a0.fLists, .fn 53 [.pp (cs a1)]], .pure (.int .i64 r1)⟩] (by kernel_rfl) nil_all ⟨fun _ => slices_IndexFunc_api_PrefixList_api_PrefixList__model_PrefixList_1_ok a0.fLists a1 r1 q1, trivial⟩ ?_
  refine then_n ?_
  refine awp_ret ?_
  obtain rfl := Option.some.inj h2
  exact ends_r (.int .i64 r1) (by kernel_rfl) Sub.rfl

/- netverify/netverifyref8.PrefixList -/
noncomputable def M.ref8_PrefixList_l1 (a0 : TRouter) (a1 : ByteArray) (p1 : Int) : Option (Int ⊕ (Unit ⊕ Int)) :=
  bif decide (p1 < (a0.fLists.length : Int)) then (gd [decide (0 ≤ p1), decide (p1 < (a0.fLists.length : Int))] (bif strEq ((a0.fLists.getD p1.toNat default).fName) a1 then (some (.inr (.inr p1))) else (some (.inl (wr .i64 (p1 + 1)))))) else (some (.inr (.inl ())))
noncomputable def M.ref8_PrefixList (a0 : TRouter) (a1 : ByteArray) : Option Int :=
  (loopM (M.ref8_PrefixList_l1 a0 a1) 0).bind fun y3 => Sum.elim (fun g4 => some (-1)) (fun y5 => some y5) y3
theorem ref8_PrefixList_ok (a0 : TRouter) (a1 : ByteArray) (r : Int) (h : M.ref8_PrefixList a0 a1 = some r) : Fn Try.prog 18 [.agg (c_TRouter a0), .str a1] (.pure (.int .i64 r)) := by
  unfold M.ref8_PrefixList at h
  refine fn_pure Try.func18 rfl (by kernel_rfl) ?_
  refine awp_seq ?_
  refine awp_reg [] [1, 2] 1 ⟨22, [(1, .str a1), (2, .ref 0 0)], [.box (c_TRouter a0)]⟩ [] [] (by kernel_rfl) nil_all trivial ?_
  refine then_n ?_
  refine awp_seq ?_
  refine awp_seq ?_
  refine awp_reg [] [1, 2, 5] 1 ⟨22, [(1, .str a1), (2, .ref 0 0), (5, .int .i64 0)], [.box (c_TRouter a0)]⟩ [] [] (by kernel_rfl) nil_all trivial ?_
  refine then_n ?_
  refine awp_block ?_
  obtain ⟨y3, q10, h11⟩ := bind_some h
  refine awp_le (s' := ⟨22, [(1, .str a1), (2, .ref 0 0), (5, .int .i64 0)], [.box (c_TRouter a0)]⟩) (le_rfl) ?_
  refine awp_mono (awp_loop (f := M.ref8_PrefixList_l1 a0 a1) (S := fun (p1 : Int) => ⟨22, [(1, .str a1), (2, .ref 0 0), (5, .int .i64 p1)], [.box (c_TRouter a0)]⟩) (O := (Sum.elim (fun z => OutE 0 (fun z => ⟨22, [], []⟩) z) (fun z => OutR Try.prog Try.f18 (.int .i64 z)))) ?_ (x := 0) (y := y3) (loopM_iter q10)) ?_
  · intro p1 y2 h1
    unfold M.ref8_PrefixList_l1 at h1
    refine awp_seq ?_
    refine awp_seq ?_
    refine awp_reg [] [1, 2, 5, 10] 1 ⟨22, [(1, .str a1), (2, .ref 0 0), (5, .int .i64 p1), (10, .bool (decide (p1 < (a0.fLists.length : Int))))], [.box (c_TRouter a0)]⟩ [] [] (by kernel_rfl) nil_all trivial ?_
    refine then_n ?_
    refine awp_cond (b := decide (p1 < (a0.fLists.length : Int))) (by kernel_rfl) (fun b2 => ?_) (fun b2 => ?_)
    · have h3 := cond_t b2 h1
      refine awp_skip ?_
      refine then_n ?_
      refine awp_seq ?_
      refine awp_block ?_
      refine awp_seq ?_
      obtain ⟨c5, h6⟩ := gd_some h3
      refine awp_reg [] [1, 2, 5, 20] 1 ⟨22, [(1, .str a1), (2, .ref 0 0), (5, .int .i64 p1), (20, .bool (strEq ((a0.fLists.getD p1.toNat default).fName) a1))], [.box (c_TRouter a0)]⟩ [decide (0 ≤ p1), decide (p1 < (a0.fLists.length : Int))] [] (by kernel_rfl) c5 trivial ?_
      refine then_n ?_
      refine awp_cond (b := strEq ((a0.fLists.getD p1.toNat default).fName) a1) (by kernel_rfl) (fun b7 => ?_) (fun b7 => ?_)
      · have h8 := cond_t b7 h6
        refine awp_seq ?_
        refine awp_reg [] [4] 0 ⟨22, [(4, .int .i64 p1)], []⟩ [] [] (by kernel_rfl) nil_all trivial ?_
        refine then_n ?_
        refine awp_ret ?_
        refine inb_r ?_
        refine then_r ?_
        obtain rfl := Option.some.inj h8
        exact round_r ⟨rfl, ends_r (.int .i64 p1) (by kernel_rfl) Sub.rfl⟩
      · have h9 := cond_f b7 h6
        refine awp_skip ?_
        refine inb_n ?_
        refine then_n ?_
        refine awp_reg [] [1, 2, 5] 1 ⟨22, [(1, .str a1), (2, .ref 0 0), (5, .int .i64 (wr .i64 (p1 + 1)))], [.box (c_TRouter a0)]⟩ [] [] (by kernel_rfl) nil_all trivial ?_
        obtain rfl := Option.some.inj h9
        exact round_n (le_rfl)
    · have h4 := cond_f b2 h1
      refine awp_exit ?_
      refine then_e ?_
      obtain rfl := Option.some.inj h4
      exact round_e ⟨rfl, Le.trans (s' := ⟨22, [], [.box (c_TRouter a0)]⟩) (le_keep' [] (by kernel_rfl)) (le_cut (n := 0) (by kernel_rfl))⟩
  · intro e12 s13 o14
    rcases y3 with g4 | y5
    · have h15 := elim_l h11
      obtain ⟨rfl, l17⟩ := o14
      refine inb_here ?_
      refine then_le (s' := ⟨22, [], []⟩) (l17) ?_
      refine awp_seq ?_
      refine awp_reg [] [4] 0 ⟨22, [(4, .int .i64 (-1))], []⟩ [] [] (by kernel_rfl) nil_all trivial ?_
      refine then_n ?_
      refine awp_ret ?_
      obtain rfl := Option.some.inj h15
      exact ends_r (.int .i64 (-1)) (by kernel_rfl) Sub.rfl
    · have h16 := elim_r h11
      obtain ⟨rfl, n18⟩ := o14
      refine inb_r ?_
      refine then_r ?_
      obtain rfl := Option.some.inj h16
      exact n18

/- netverify/model.RouteMap$1 -/
noncomputable def M.model_RouteMap_1 (a0 : TRouteMap) (b0 : ByteArray) : Option Bool :=
  some (strEq a0.fName b0)
theorem model_RouteMap_1_ok (a0 : TRouteMap) (b0 : ByteArray) (r : Bool) (h : M.model_RouteMap_1 a0 b0 = some r) : Fn Try.prog 55 [.agg (c_TRouteMap a0), .pp (cs b0)] (.pure (.bool r)) := by
  unfold M.model_RouteMap_1 at h
  refine fn_pure Try.func55 rfl (by kernel_rfl) ?_
  refine awp_seq ?_
  refine awp_reg [] [1, 2] 1 ⟨8, [(1, .pp (cs b0)), (2, .ref 0 0)], [.box (c_TRouteMap a0)]⟩ [] [] (by kernel_rfl) nil_all trivial ?_
  refine then_n ?_
  refine awp_seq ?_
  refine awp_reg [] [3] 0 ⟨8, [(3, .bool (strEq a0.fName b0))], []⟩ [] [] (by kernel_rfl) nil_all trivial ?_
  refine then_n ?_
  refine awp_ret ?_
  obtain rfl := Option.some.inj h
  exact ends_r (.bool (strEq a0.fName b0)) (by kernel_rfl) Sub.rfl

/- slices.IndexFunc[[]netverify/api.RouteMap,netverify/api.RouteMap] -/
noncomputable def M.slices_IndexFunc_api_RouteMap_api_RouteMap__model_RouteMap_1_l1 (a0 : List TRouteMap) (a1c0 : ByteArray) (p1 : Int) : Option (Int ⊕ (Unit ⊕ Int)) :=
  bif decide (p1 < (a0.length : Int)) then ((M.model_RouteMap_1 (a0.getD p1.toNat default) a1c0).bind fun r3 => gd [decide (0 ≤ p1), decide (p1 < (a0.length : Int))] (bif r3 then (some (.inr (.inr p1))) else (some (.inl (wr .i64 (p1 + 1)))))) else (some (.inr (.inl ())))
noncomputable def M.slices_IndexFunc_api_RouteMap_api_RouteMap__model_RouteMap_1 (a0 : List TRouteMap) (a1c0 : ByteArray) : Option Int :=
  (loopM (M.slices_IndexFunc_api_RouteMap_api_RouteMap__model_RouteMap_1_l1 a0 a1c0) 0).bind fun y4 => Sum.elim (fun g5 => some (-1)) (fun y6 => some y6) y4
theorem slices_IndexFunc_api_RouteMap_api_RouteMap__model_RouteMap_1_ok (a0 : List TRouteMap) (a1c0 : ByteArray) (r : Int) (h : M.slices_IndexFunc_api_RouteMap_api_RouteMap__model_RouteMap_1 a0 a1c0 = some r) : Fn Try.prog 54 [sL 2 c_TRouteMap a0, .fn 55 [.pp (cs a1c0)]] (.pure (.int .i64 r)) := by
  unfold M.slices_IndexFunc_api_RouteMap_api_RouteMap__model_RouteMap_1 at h
  refine fn_pure Try.func54 rfl (by kernel_rfl) ?_
  refine awp_seq ?_
  refine awp_reg [] [0, 1] 0 ⟨19, [(0, sL 2 c_TRouteMap a0), (1, .fn 55 [.pp (cs a1c0)])], []⟩ [] [] (by kernel_rfl) nil_all trivial ?_
  refine then_n ?_
  refine awp_seq ?_
  refine awp_seq ?_
  refine awp_reg [] [0, 1, 7, 8] 0 ⟨19, [(0, sL 2 c_TRouteMap a0), (1, .fn 55 [.pp (cs a1c0)]), (7, .int .i64 (a0.length : Int)), (8, .int .i64 0)], []⟩ [] [] (by kernel_rfl) nil_all trivial ?_
  refine then_n ?_
  refine awp_block ?_
  obtain ⟨y4, q12, h13⟩ := bind_some h
  refine awp_le (s' := ⟨19, [(0, sL 2 c_TRouteMap a0), (1, .fn 55 [.pp (cs a1c0)]), (7, .int .i64 (a0.length : Int)), (8, .int .i64 0)], []⟩) (le_rfl) ?_
  refine awp_mono (awp_loop (f := M.slices_IndexFunc_api_RouteMap_api_RouteMap__model_RouteMap_1_l1 a0 a1c0) (S := fun (p1 : Int) => ⟨19, [(0, sL 2 c_TRouteMap a0), (1, .fn 55 [.pp (cs a1c0)]), (7, .int .i64 (a0.length : Int)), (8, .int .i64 p1)], []⟩) (O := (Sum.elim (fun z => OutE 0 (fun z => ⟨19, [], []⟩) z) (fun z => OutR Try.prog Try.f54 (.int .i64 z)))) ?_ (x := 0) (y := y4) (loopM_iter q12)) ?_
  · intro p1 y2 h1
    unfold M.slices_IndexFunc_api_RouteMap_api_RouteMap__model_RouteMap_1_l1 at h1
    refine awp_seq ?_
    refine awp_reg [] [0, 1, 7, 8, 9] 0 ⟨19, [(0, sL 2 c_TRouteMap a0), (1, .fn 55 [.pp (cs a1c0)]), (7, .int .i64 (a0.length : Int)), (8, .int .i64 p1), (9, .bool (decide (p1 < (a0.length : Int))))], []⟩ [] [] (by kernel_rfl) nil_all trivial ?_
    refine then_n ?_
    refine awp_seq ?_
    refine awp_cond (b := decide (p1 < (a0.length : Int))) (by kernel_rfl) (fun b2 => ?_) (fun b2 => ?_)
    · have h3 := cond_t b2 h1
      refine awp_skip ?_
      refine then_n ?_
      refine awp_seq ?_
      refine awp_block ?_
      refine awp_seq ?_
      refine awp_reg [] [0, 1, 5, 7, 8] 0 ⟨19, [(0, sL 2 c_TRouteMap a0), (1, .fn 55 [.pp (cs a1c0)]), (5, .int .i64 p1), (7, .int .i64 (a0.length : Int)), (8, .int .i64 p1)], []⟩ [] [] (by kernel_rfl) nil_all trivial ?_
      refine then_n ?_
      refine awp_seq ?_
      obtain ⟨r3, q5, h6⟩ := bind_some h3
      obtain ⟨c7, h8⟩ := gd_some h6
      refine awp_reg [.pure (.bool r3)] [0, 1, 5, 7, 8, 16] 0 ⟨19, [(0, sL 2 c_TRouteMap a0), (1, .fn 55 [.pp (cs a1c0)]), (5, .int .i64 p1), (7, .int .i64 (a0.length : Int)), (8, .int .i64 p1), (16, .bool r3)], []⟩ [decide (0 ≤ p1), decide (p1 < (a0.length : Int))] [⟨true, 55, [.agg (c_TRouteMap (a0.getD p1.toNat default)), .pp (cs a1c0)], .pure (.bool r3)⟩] (by kernel_rfl) c7 ⟨fun _ => model_RouteMap_1_ok (a0.getD p1.toNat default) a1c0 r3 q5, trivial⟩ ?_
      refine then_n ?_
      refine awp_cond (b := r3) (by kernel_rfl) (fun b9 => ?_) (fun b9 => ?_)
      · have h10 := cond_t b9 h8
        refine awp_seq ?_
        refine awp_reg [] [4] 0 ⟨19, [(4, .int .i64 p1)], []⟩ [] [] (by kernel_rfl) nil_all trivial ?_
        refine then_n ?_
        refine awp_ret ?_
        refine inb_r ?_
        refine then_r ?_
        obtain rfl := Option.some.inj h10
        exact round_r ⟨rfl, ends_r (.int .i64 p1) (by kernel_rfl) Sub.rfl⟩
      · have h11 := cond_f b9 h8
        refine awp_skip ?_
        refine inb_n ?_
        refine then_n ?_
        refine awp_reg [] [0, 1, 7, 8] 0 ⟨19, [(0, sL 2 c_TRouteMap a0), (1, .fn 55 [.pp (cs a1c0)]), (7, .int .i64 (a0.length : Int)), (8, .int .i64 (wr .i64 (p1 + 1)))], []⟩ [] [] (by kernel_rfl) nil_all trivial ?_
        obtain rfl := Option.some.inj h11
        exact round_n (le_rfl)
    · have h4 := cond_f b2 h1
      refine awp_exit ?_
      refine then_e ?_
      obtain rfl := Option.some.inj h4
      exact round_e ⟨rfl, le_keep' [] (by kernel_rfl)⟩
  · intro e14 s15 o16
    rcases y4 with g5 | y6
    · have h17 := elim_l h13
      obtain ⟨rfl, l19⟩ := o16
      refine inb_here ?_
      refine then_le (s' := ⟨19, [], []⟩) (l19) ?_
      refine awp_seq ?_
      refine awp_reg [] [4] 0 ⟨19, [(4, .int .i64 (-1))], []⟩ [] [] (by kernel_rfl) nil_all trivial ?_
      refine then_n ?_
      refine awp_ret ?_
      obtain rfl := Option.some.inj h17
      exact ends_r (.int .i64 (-1)) (by kernel_rfl) Sub.rfl
    · have h18 := elim_r h13
      obtain ⟨rfl, n20⟩ := o16
      refine inb_r ?_
      refine then_r ?_
      obtain rfl := Option.some.inj h18
      exact n20

/- netverify/model.RouteMap -/
noncomputable def M.model_RouteMap (a0 : TRouter) (a1 : ByteArray) : Option Int :=
  (M.slices_IndexFunc_api_RouteMap_api_RouteMap__model_RouteMap_1 a0.fMaps a1).bind fun r1 => some r1
theorem model_RouteMap_ok (a0 : TRouter) (a1 : ByteArray) (r : Int) (h : M.model_RouteMap a0 a1 = some r) : Fn Try.prog 19 [.agg (c_TRouter a0), .str a1] (.pure (.int .i64 r)) := by
  unfold M.model_RouteMap at h
  refine fn_pure Try.func19 rfl (by kernel_rfl) ?_
  refine awp_seq ?_
  refine awp_reg [] [2, 3] 2 ⟨9, [(2, .ref 0 0), (3, .ref 1 0)], [.box (c_TRouter a0), .box [.str a1]]⟩ [] [] (by kernel_rfl) nil_all trivial ?_
  refine then_n ?_
  refine awp_seq ?_
  obtain ⟨r1, q1, h2⟩ := bind_some h
  refine awp_reg [.pure (.int .i64 r1)] [4] 0 ⟨9, [(4, .int .i64 r1)], []⟩ [] [⟨true, 54, [sL 2 c_TRouteMap a0.fMaps, .fn 55 [.pp (cs a1)]], .pure (.int .i64 r1)⟩] (by kernel_rfl) nil_all ⟨fun _ => slices_IndexFunc_api_RouteMap_api_RouteMap__model_RouteMap_1_ok a0.fMaps a1 r1 q1, trivial⟩ ?_
  refine then_n ?_
  refine awp_ret ?_
  obtain rfl := Option.some.inj h2
  exact ends_r (.int .i64 r1) (by kernel_rfl) Sub.rfl

/- netverify/netverifyref8.RouteMap -/
noncomputable def M.ref8_RouteMap_l1 (a0 : TRouter) (a1 : ByteArray) (p1 : Int) : Option (Int ⊕ (Unit ⊕ Int)) :=
  bif decide (p1 < (a0.fMaps.length : Int)) then (gd [decide (0 ≤ p1), decide (p1 < (a0.fMaps.length : Int))] (bif strEq ((a0.fMaps.getD p1.toNat default).fName) a1 then (some (.inr (.inr p1))) else (some (.inl (wr .i64 (p1 + 1)))))) else (some (.inr (.inl ())))
noncomputable def M.ref8_RouteMap (a0 : TRouter) (a1 : ByteArray) : Option Int :=
  (loopM (M.ref8_RouteMap_l1 a0 a1) 0).bind fun y3 => Sum.elim (fun g4 => some (-1)) (fun y5 => some y5) y3
theorem ref8_RouteMap_ok (a0 : TRouter) (a1 : ByteArray) (r : Int) (h : M.ref8_RouteMap a0 a1 = some r) : Fn Try.prog 20 [.agg (c_TRouter a0), .str a1] (.pure (.int .i64 r)) := by
  unfold M.ref8_RouteMap at h
  refine fn_pure Try.func20 rfl (by kernel_rfl) ?_
  refine awp_seq ?_
  refine awp_reg [] [1, 2] 1 ⟨22, [(1, .str a1), (2, .ref 0 0)], [.box (c_TRouter a0)]⟩ [] [] (by kernel_rfl) nil_all trivial ?_
  refine then_n ?_
  refine awp_seq ?_
  refine awp_seq ?_
  refine awp_reg [] [1, 2, 5] 1 ⟨22, [(1, .str a1), (2, .ref 0 0), (5, .int .i64 0)], [.box (c_TRouter a0)]⟩ [] [] (by kernel_rfl) nil_all trivial ?_
  refine then_n ?_
  refine awp_block ?_
  obtain ⟨y3, q10, h11⟩ := bind_some h
  refine awp_le (s' := ⟨22, [(1, .str a1), (2, .ref 0 0), (5, .int .i64 0)], [.box (c_TRouter a0)]⟩) (le_rfl) ?_
  refine awp_mono (awp_loop (f := M.ref8_RouteMap_l1 a0 a1) (S := fun (p1 : Int) => ⟨22, [(1, .str a1), (2, .ref 0 0), (5, .int .i64 p1)], [.box (c_TRouter a0)]⟩) (O := (Sum.elim (fun z => OutE 0 (fun z => ⟨22, [], []⟩) z) (fun z => OutR Try.prog Try.f20 (.int .i64 z)))) ?_ (x := 0) (y := y3) (loopM_iter q10)) ?_
  · intro p1 y2 h1
    unfold M.ref8_RouteMap_l1 at h1
    refine awp_seq ?_
    refine awp_seq ?_
    refine awp_reg [] [1, 2, 5, 10] 1 ⟨22, [(1, .str a1), (2, .ref 0 0), (5, .int .i64 p1), (10, .bool (decide (p1 < (a0.fMaps.length : Int))))], [.box (c_TRouter a0)]⟩ [] [] (by kernel_rfl) nil_all trivial ?_
    refine then_n ?_
    refine awp_cond (b := decide (p1 < (a0.fMaps.length : Int))) (by kernel_rfl) (fun b2 => ?_) (fun b2 => ?_)
    · have h3 := cond_t b2 h1
      refine awp_skip ?_
      refine then_n ?_
      refine awp_seq ?_
      refine awp_block ?_
      refine awp_seq ?_
      obtain ⟨c5, h6⟩ := gd_some h3
      refine awp_reg [] [1, 2, 5, 20] 1 ⟨22, [(1, .str a1), (2, .ref 0 0), (5, .int .i64 p1), (20, .bool (strEq ((a0.fMaps.getD p1.toNat default).fName) a1))], [.box (c_TRouter a0)]⟩ [decide (0 ≤ p1), decide (p1 < (a0.fMaps.length : Int))] [] (by kernel_rfl) c5 trivial ?_
      refine then_n ?_
      refine awp_cond (b := strEq ((a0.fMaps.getD p1.toNat default).fName) a1) (by kernel_rfl) (fun b7 => ?_) (fun b7 => ?_)
      · have h8 := cond_t b7 h6
        refine awp_seq ?_
        refine awp_reg [] [4] 0 ⟨22, [(4, .int .i64 p1)], []⟩ [] [] (by kernel_rfl) nil_all trivial ?_
        refine then_n ?_
        refine awp_ret ?_
        refine inb_r ?_
        refine then_r ?_
        obtain rfl := Option.some.inj h8
        exact round_r ⟨rfl, ends_r (.int .i64 p1) (by kernel_rfl) Sub.rfl⟩
      · have h9 := cond_f b7 h6
        refine awp_skip ?_
        refine inb_n ?_
        refine then_n ?_
        refine awp_reg [] [1, 2, 5] 1 ⟨22, [(1, .str a1), (2, .ref 0 0), (5, .int .i64 (wr .i64 (p1 + 1)))], [.box (c_TRouter a0)]⟩ [] [] (by kernel_rfl) nil_all trivial ?_
        obtain rfl := Option.some.inj h9
        exact round_n (le_rfl)
    · have h4 := cond_f b2 h1
      refine awp_exit ?_
      refine then_e ?_
      obtain rfl := Option.some.inj h4
      exact round_e ⟨rfl, Le.trans (s' := ⟨22, [], [.box (c_TRouter a0)]⟩) (le_keep' [] (by kernel_rfl)) (le_cut (n := 0) (by kernel_rfl))⟩
  · intro e12 s13 o14
    rcases y3 with g4 | y5
    · have h15 := elim_l h11
      obtain ⟨rfl, l17⟩ := o14
      refine inb_here ?_
      refine then_le (s' := ⟨22, [], []⟩) (l17) ?_
      refine awp_seq ?_
      refine awp_reg [] [4] 0 ⟨22, [(4, .int .i64 (-1))], []⟩ [] [] (by kernel_rfl) nil_all trivial ?_
      refine then_n ?_
      refine awp_ret ?_
      obtain rfl := Option.some.inj h15
      exact ends_r (.int .i64 (-1)) (by kernel_rfl) Sub.rfl
    · have h16 := elim_r h11
      obtain ⟨rfl, n18⟩ := o14
      refine inb_r ?_
      refine then_r ?_
      obtain rfl := Option.some.inj h16
      exact n18

/- netverify/model.ACL$1 -/
noncomputable def M.model_ACL_1 (a0 : TACL) (b0 : ByteArray) : Option Bool :=
  some (strEq a0.fName b0)
theorem model_ACL_1_ok (a0 : TACL) (b0 : ByteArray) (r : Bool) (h : M.model_ACL_1 a0 b0 = some r) : Fn Try.prog 57 [.agg (c_TACL a0), .pp (cs b0)] (.pure (.bool r)) := by
  unfold M.model_ACL_1 at h
  refine fn_pure Try.func57 rfl (by kernel_rfl) ?_
  refine awp_seq ?_
  refine awp_reg [] [1, 2] 1 ⟨8, [(1, .pp (cs b0)), (2, .ref 0 0)], [.box (c_TACL a0)]⟩ [] [] (by kernel_rfl) nil_all trivial ?_
  refine then_n ?_
  refine awp_seq ?_
  refine awp_reg [] [3] 0 ⟨8, [(3, .bool (strEq a0.fName b0))], []⟩ [] [] (by kernel_rfl) nil_all trivial ?_
  refine then_n ?_
  refine awp_ret ?_
  obtain rfl := Option.some.inj h
  exact ends_r (.bool (strEq a0.fName b0)) (by kernel_rfl) Sub.rfl

/- slices.IndexFunc[[]netverify/api.ACL,netverify/api.ACL] -/
noncomputable def M.slices_IndexFunc_api_ACL_api_ACL__model_ACL_1_l1 (a0 : List TACL) (a1c0 : ByteArray) (p1 : Int) : Option (Int ⊕ (Unit ⊕ Int)) :=
  bif decide (p1 < (a0.length : Int)) then ((M.model_ACL_1 (a0.getD p1.toNat default) a1c0).bind fun r3 => gd [decide (0 ≤ p1), decide (p1 < (a0.length : Int))] (bif r3 then (some (.inr (.inr p1))) else (some (.inl (wr .i64 (p1 + 1)))))) else (some (.inr (.inl ())))
noncomputable def M.slices_IndexFunc_api_ACL_api_ACL__model_ACL_1 (a0 : List TACL) (a1c0 : ByteArray) : Option Int :=
  (loopM (M.slices_IndexFunc_api_ACL_api_ACL__model_ACL_1_l1 a0 a1c0) 0).bind fun y4 => Sum.elim (fun g5 => some (-1)) (fun y6 => some y6) y4
theorem slices_IndexFunc_api_ACL_api_ACL__model_ACL_1_ok (a0 : List TACL) (a1c0 : ByteArray) (r : Int) (h : M.slices_IndexFunc_api_ACL_api_ACL__model_ACL_1 a0 a1c0 = some r) : Fn Try.prog 56 [sL 2 c_TACL a0, .fn 57 [.pp (cs a1c0)]] (.pure (.int .i64 r)) := by
  unfold M.slices_IndexFunc_api_ACL_api_ACL__model_ACL_1 at h
  refine fn_pure Try.func56 rfl (by kernel_rfl) ?_
  refine awp_seq ?_
  refine awp_reg [] [0, 1] 0 ⟨19, [(0, sL 2 c_TACL a0), (1, .fn 57 [.pp (cs a1c0)])], []⟩ [] [] (by kernel_rfl) nil_all trivial ?_
  refine then_n ?_
  refine awp_seq ?_
  refine awp_seq ?_
  refine awp_reg [] [0, 1, 7, 8] 0 ⟨19, [(0, sL 2 c_TACL a0), (1, .fn 57 [.pp (cs a1c0)]), (7, .int .i64 (a0.length : Int)), (8, .int .i64 0)], []⟩ [] [] (by kernel_rfl) nil_all trivial ?_
  refine then_n ?_
  refine awp_block ?_
  obtain ⟨y4, q12, h13⟩ := bind_some h
  refine awp_le (s' := ⟨19, [(0, sL 2 c_TACL a0), (1, .fn 57 [.pp (cs a1c0)]), (7, .int .i64 (a0.length : Int)), (8, .int .i64 0)], []⟩) (le_rfl) ?_
  refine awp_mono (awp_loop (f := M.slices_IndexFunc_api_ACL_api_ACL__model_ACL_1_l1 a0 a1c0) (S := fun (p1 : Int) => ⟨19, [(0, sL 2 c_TACL a0), (1, .fn 57 [.pp (cs a1c0)]), (7, .int .i64 (a0.length : Int)), (8, .int .i64 p1)], []⟩) (O := (Sum.elim (fun z => OutE 0 (fun z => ⟨19, [], []⟩) z) (fun z => OutR Try.prog Try.f56 (.int .i64 z)))) ?_ (x := 0) (y := y4) (loopM_iter q12)) ?_
  · intro p1 y2 h1
    unfold M.slices_IndexFunc_api_ACL_api_ACL__model_ACL_1_l1 at h1
    refine awp_seq ?_
    refine awp_reg [] [0, 1, 7, 8, 9] 0 ⟨19, [(0, sL 2 c_TACL a0), (1, .fn 57 [.pp (cs a1c0)]), (7, .int .i64 (a0.length : Int)), (8, .int .i64 p1), (9, .bool (decide (p1 < (a0.length : Int))))], []⟩ [] [] (by kernel_rfl) nil_all trivial ?_
    refine then_n ?_
    refine awp_seq ?_
    refine awp_cond (b := decide (p1 < (a0.length : Int))) (by kernel_rfl) (fun b2 => ?_) (fun b2 => ?_)
    · have h3 := cond_t b2 h1
      refine awp_skip ?_
      refine then_n ?_
      refine awp_seq ?_
      refine awp_block ?_
      refine awp_seq ?_
      refine awp_reg [] [0, 1, 5, 7, 8] 0 ⟨19, [(0, sL 2 c_TACL a0), (1, .fn 57 [.pp (cs a1c0)]), (5, .int .i64 p1), (7, .int .i64 (a0.length : Int)), (8, .int .i64 p1)], []⟩ [] [] (by kernel_rfl) nil_all trivial ?_
      refine then_n ?_
      refine awp_seq ?_
      obtain ⟨r3, q5, h6⟩ := bind_some h3
      obtain ⟨c7, h8⟩ := gd_some h6
      refine awp_reg [.pure (.bool r3)] [0, 1, 5, 7, 8, 16] 0 ⟨19, [(0, sL 2 c_TACL a0), (1, .fn 57 [.pp (cs a1c0)]), (5, .int .i64 p1), (7, .int .i64 (a0.length : Int)), (8, .int .i64 p1), (16, .bool r3)], []⟩ [decide (0 ≤ p1), decide (p1 < (a0.length : Int))] [⟨true, 57, [.agg (c_TACL (a0.getD p1.toNat default)), .pp (cs a1c0)], .pure (.bool r3)⟩] (by kernel_rfl) c7 ⟨fun _ => model_ACL_1_ok (a0.getD p1.toNat default) a1c0 r3 q5, trivial⟩ ?_
      refine then_n ?_
      refine awp_cond (b := r3) (by kernel_rfl) (fun b9 => ?_) (fun b9 => ?_)
      · have h10 := cond_t b9 h8
        refine awp_seq ?_
        refine awp_reg [] [4] 0 ⟨19, [(4, .int .i64 p1)], []⟩ [] [] (by kernel_rfl) nil_all trivial ?_
        refine then_n ?_
        refine awp_ret ?_
        refine inb_r ?_
        refine then_r ?_
        obtain rfl := Option.some.inj h10
        exact round_r ⟨rfl, ends_r (.int .i64 p1) (by kernel_rfl) Sub.rfl⟩
      · have h11 := cond_f b9 h8
        refine awp_skip ?_
        refine inb_n ?_
        refine then_n ?_
        refine awp_reg [] [0, 1, 7, 8] 0 ⟨19, [(0, sL 2 c_TACL a0), (1, .fn 57 [.pp (cs a1c0)]), (7, .int .i64 (a0.length : Int)), (8, .int .i64 (wr .i64 (p1 + 1)))], []⟩ [] [] (by kernel_rfl) nil_all trivial ?_
        obtain rfl := Option.some.inj h11
        exact round_n (le_rfl)
    · have h4 := cond_f b2 h1
      refine awp_exit ?_
      refine then_e ?_
      obtain rfl := Option.some.inj h4
      exact round_e ⟨rfl, le_keep' [] (by kernel_rfl)⟩
  · intro e14 s15 o16
    rcases y4 with g5 | y6
    · have h17 := elim_l h13
      obtain ⟨rfl, l19⟩ := o16
      refine inb_here ?_
      refine then_le (s' := ⟨19, [], []⟩) (l19) ?_
      refine awp_seq ?_
      refine awp_reg [] [4] 0 ⟨19, [(4, .int .i64 (-1))], []⟩ [] [] (by kernel_rfl) nil_all trivial ?_
      refine then_n ?_
      refine awp_ret ?_
      obtain rfl := Option.some.inj h17
      exact ends_r (.int .i64 (-1)) (by kernel_rfl) Sub.rfl
    · have h18 := elim_r h13
      obtain ⟨rfl, n20⟩ := o16
      refine inb_r ?_
      refine then_r ?_
      obtain rfl := Option.some.inj h18
      exact n20

/- netverify/model.ACL -/
noncomputable def M.model_ACL (a0 : TRouter) (a1 : ByteArray) : Option Int :=
  (M.slices_IndexFunc_api_ACL_api_ACL__model_ACL_1 a0.fACLs a1).bind fun r1 => some r1
theorem model_ACL_ok (a0 : TRouter) (a1 : ByteArray) (r : Int) (h : M.model_ACL a0 a1 = some r) : Fn Try.prog 21 [.agg (c_TRouter a0), .str a1] (.pure (.int .i64 r)) := by
  unfold M.model_ACL at h
  refine fn_pure Try.func21 rfl (by kernel_rfl) ?_
  refine awp_seq ?_
  refine awp_reg [] [2, 3] 2 ⟨9, [(2, .ref 0 0), (3, .ref 1 0)], [.box (c_TRouter a0), .box [.str a1]]⟩ [] [] (by kernel_rfl) nil_all trivial ?_
  refine then_n ?_
  refine awp_seq ?_
  obtain ⟨r1, q1, h2⟩ := bind_some h
  refine awp_reg [.pure (.int .i64 r1)] [4] 0 ⟨9, [(4, .int .i64 r1)], []⟩ [] [⟨true, 56, [sL 2 c_TACL a0.fACLs, .fn 57 [.pp (cs a1)]], .pure (.int .i64 r1)⟩] (by kernel_rfl) nil_all ⟨fun _ => slices_IndexFunc_api_ACL_api_ACL__model_ACL_1_ok a0.fACLs a1 r1 q1, trivial⟩ ?_
  refine then_n ?_
  refine awp_ret ?_
  obtain rfl := Option.some.inj h2
  exact ends_r (.int .i64 r1) (by kernel_rfl) Sub.rfl

/- netverify/netverifyref8.ACL -/
noncomputable def M.ref8_ACL_l1 (a0 : TRouter) (a1 : ByteArray) (p1 : Int) : Option (Int ⊕ (Unit ⊕ Int)) :=
  bif decide (p1 < (a0.fACLs.length : Int)) then (gd [decide (0 ≤ p1), decide (p1 < (a0.fACLs.length : Int))] (bif strEq ((a0.fACLs.getD p1.toNat default).fName) a1 then (some (.inr (.inr p1))) else (some (.inl (wr .i64 (p1 + 1)))))) else (some (.inr (.inl ())))
noncomputable def M.ref8_ACL (a0 : TRouter) (a1 : ByteArray) : Option Int :=
  (loopM (M.ref8_ACL_l1 a0 a1) 0).bind fun y3 => Sum.elim (fun g4 => some (-1)) (fun y5 => some y5) y3
theorem ref8_ACL_ok (a0 : TRouter) (a1 : ByteArray) (r : Int) (h : M.ref8_ACL a0 a1 = some r) : Fn Try.prog 22 [.agg (c_TRouter a0), .str a1] (.pure (.int .i64 r)) := by
  unfold M.ref8_ACL at h
  refine fn_pure Try.func22 rfl (by kernel_rfl) ?_
  refine awp_seq ?_
  refine awp_reg [] [1, 2] 1 ⟨22, [(1, .str a1), (2, .ref 0 0)], [.box (c_TRouter a0)]⟩ [] [] (by kernel_rfl) nil_all trivial ?_
  refine then_n ?_
  refine awp_seq ?_
  refine awp_seq ?_
  refine awp_reg [] [1, 2, 5] 1 ⟨22, [(1, .str a1), (2, .ref 0 0), (5, .int .i64 0)], [.box (c_TRouter a0)]⟩ [] [] (by kernel_rfl) nil_all trivial ?_
  refine then_n ?_
  refine awp_block ?_
  obtain ⟨y3, q10, h11⟩ := bind_some h
  refine awp_le (s' := ⟨22, [(1, .str a1), (2, .ref 0 0), (5, .int .i64 0)], [.box (c_TRouter a0)]⟩) (le_rfl) ?_
  refine awp_mono (awp_loop (f := M.ref8_ACL_l1 a0 a1) (S := fun (p1 : Int) => ⟨22, [(1, .str a1), (2, .ref 0 0), (5, .int .i64 p1)], [.box (c_TRouter a0)]⟩) (O := (Sum.elim (fun z => OutE 0 (fun z => ⟨22, [], []⟩) z) (fun z => OutR Try.prog Try.f22 (.int .i64 z)))) ?_ (x := 0) (y := y3) (loopM_iter q10)) ?_
  · intro p1 y2 h1
    unfold M.ref8_ACL_l1 at h1
    refine awp_seq ?_
    refine awp_seq ?_
    refine awp_reg [] [1, 2, 5, 10] 1 ⟨22, [(1, .str a1), (2, .ref 0 0), (5, .int .i64 p1), (10, .bool (decide (p1 < (a0.fACLs.length : Int))))], [.box (c_TRouter a0)]⟩ [] [] (by kernel_rfl) nil_all trivial ?_
    refine then_n ?_
    refine awp_cond (b := decide (p1 < (a0.fACLs.length : Int))) (by kernel_rfl) (fun b2 => ?_) (fun b2 => ?_)
    · have h3 := cond_t b2 h1
      refine awp_skip ?_
      refine then_n ?_
      refine awp_seq ?_
      refine awp_block ?_
      refine awp_seq ?_
      obtain ⟨c5, h6⟩ := gd_some h3
      refine awp_reg [] [1, 2, 5, 20] 1 ⟨22, [(1, .str a1), (2, .ref 0 0), (5, .int .i64 p1), (20, .bool (strEq ((a0.fACLs.getD p1.toNat default).fName) a1))], [.box (c_TRouter a0)]⟩ [decide (0 ≤ p1), decide (p1 < (a0.fACLs.length : Int))] [] (by kernel_rfl) c5 trivial ?_
      refine then_n ?_
      refine awp_cond (b := strEq ((a0.fACLs.getD p1.toNat default).fName) a1) (by kernel_rfl) (fun b7 => ?_) (fun b7 => ?_)
      · have h8 := cond_t b7 h6
        refine awp_seq ?_
        refine awp_reg [] [4] 0 ⟨22, [(4, .int .i64 p1)], []⟩ [] [] (by kernel_rfl) nil_all trivial ?_
        refine then_n ?_
        refine awp_ret ?_
        refine inb_r ?_
        refine then_r ?_
        obtain rfl := Option.some.inj h8
        exact round_r ⟨rfl, ends_r (.int .i64 p1) (by kernel_rfl) Sub.rfl⟩
      · have h9 := cond_f b7 h6
        refine awp_skip ?_
        refine inb_n ?_
        refine then_n ?_
        refine awp_reg [] [1, 2, 5] 1 ⟨22, [(1, .str a1), (2, .ref 0 0), (5, .int .i64 (wr .i64 (p1 + 1)))], [.box (c_TRouter a0)]⟩ [] [] (by kernel_rfl) nil_all trivial ?_
        obtain rfl := Option.some.inj h9
        exact round_n (le_rfl)
    · have h4 := cond_f b2 h1
      refine awp_exit ?_
      refine then_e ?_
      obtain rfl := Option.some.inj h4
      exact round_e ⟨rfl, Le.trans (s' := ⟨22, [], [.box (c_TRouter a0)]⟩) (le_keep' [] (by kernel_rfl)) (le_cut (n := 0) (by kernel_rfl))⟩
  · intro e12 s13 o14
    rcases y3 with g4 | y5
    · have h15 := elim_l h11
      obtain ⟨rfl, l17⟩ := o14
      refine inb_here ?_
      refine then_le (s' := ⟨22, [], []⟩) (l17) ?_
      refine awp_seq ?_
      refine awp_reg [] [4] 0 ⟨22, [(4, .int .i64 (-1))], []⟩ [] [] (by kernel_rfl) nil_all trivial ?_
      refine then_n ?_
      refine awp_ret ?_
      obtain rfl := Option.some.inj h15
      exact ends_r (.int .i64 (-1)) (by kernel_rfl) Sub.rfl
    · have h16 := elim_r h11
      obtain ⟨rfl, n18⟩ := o14
      refine inb_r ?_
      refine then_r ?_
      obtain rfl := Option.some.inj h16
      exact n18

/- netverify/model.Address$1 -/
noncomputable def M.model_Address_1 (a0 : TInterface) (b0 : Int) : Option Bool :=
  some ((a0.fLen != 0) && (a0.fAddr == b0))
theorem model_Address_1_ok (a0 : TInterface) (b0 : Int) (r : Bool) (h : M.model_Address_1 a0 b0 = some r) : Fn Try.prog 58 [.agg (c_TInterface a0), .pp ((ci .u32) b0)] (.pure (.bool r)) := by
  unfold M.model_Address_1 at h
  refine fn_pure Try.func58 rfl (by kernel_rfl) ?_
  refine awp_seq ?_
  refine awp_reg [] [1, 2] 1 ⟨13, [(1, .pp ((ci .u32) b0)), (2, .ref 0 0)], [.box (c_TInterface a0)]⟩ [] [] (by kernel_rfl) nil_all trivial ?_
  refine then_n ?_
  refine awp_seq ?_
  refine awp_reg [] [3] 0 ⟨13, [(3, .bool ((a0.fLen != 0) && (a0.fAddr == b0)))], []⟩ [] [] (by kernel_rfl) nil_all trivial ?_
  refine then_n ?_
  refine awp_ret ?_
  obtain rfl := Option.some.inj h
  exact ends_r (.bool ((a0.fLen != 0) && (a0.fAddr == b0))) (by kernel_rfl) Sub.rfl

/- slices.IndexFunc[[]netverify/api.Interface,netverify/api.Interface] -/
noncomputable def M.slices_IndexFunc_api_Interface_api_Interface__model_Address_1_l1 (a0 : List TInterface) (a1c0 : Int) (p1 : Int) : Option (Int ⊕ (Unit ⊕ Int)) :=
  bif decide (p1 < (a0.length : Int)) then ((M.model_Address_1 (a0.getD p1.toNat default) a1c0).bind fun r3 => gd [decide (0 ≤ p1), decide (p1 < (a0.length : Int))] (bif r3 then (some (.inr (.inr p1))) else (some (.inl (wr .i64 (p1 + 1)))))) else (some (.inr (.inl ())))
noncomputable def M.slices_IndexFunc_api_Interface_api_Interface__model_Address_1 (a0 : List TInterface) (a1c0 : Int) : Option Int :=
  (loopM (M.slices_IndexFunc_api_Interface_api_Interface__model_Address_1_l1 a0 a1c0) 0).bind fun y4 => Sum.elim (fun g5 => some (-1)) (fun y6 => some y6) y4
theorem slices_IndexFunc_api_Interface_api_Interface__model_Address_1_ok (a0 : List TInterface) (a1c0 : Int) (r : Int) (h : M.slices_IndexFunc_api_Interface_api_Interface__model_Address_1 a0 a1c0 = some r) : Fn Try.prog 50 [sL 12 c_TInterface a0, .fn 58 [.pp ((ci .u32) a1c0)]] (.pure (.int .i64 r)) := by
  unfold M.slices_IndexFunc_api_Interface_api_Interface__model_Address_1 at h
  refine fn_pure Try.func50 rfl (by kernel_rfl) ?_
  refine awp_seq ?_
  refine awp_reg [] [0, 1] 0 ⟨19, [(0, sL 12 c_TInterface a0), (1, .fn 58 [.pp ((ci .u32) a1c0)])], []⟩ [] [] (by kernel_rfl) nil_all trivial ?_
  refine then_n ?_
  refine awp_seq ?_
  refine awp_seq ?_
  refine awp_reg [] [0, 1, 7, 8] 0 ⟨19, [(0, sL 12 c_TInterface a0), (1, .fn 58 [.pp ((ci .u32) a1c0)]), (7, .int .i64 (a0.length : Int)), (8, .int .i64 0)], []⟩ [] [] (by kernel_rfl) nil_all trivial ?_
  refine then_n ?_
  refine awp_block ?_
  obtain ⟨y4, q12, h13⟩ := bind_some h
  refine awp_le (s' := ⟨19, [(0, sL 12 c_TInterface a0), (1, .fn 58 [.pp ((ci .u32) a1c0)]), (7, .int .i64 (a0.length : Int)), (8, .int .i64 0)], []⟩) (le_rfl) ?_
  refine awp_mono (awp_loop (f := M.slices_IndexFunc_api_Interface_api_Interface__model_Address_1_l1 a0 a1c0) (S := fun (p1 : Int) => ⟨19, [(0, sL 12 c_TInterface a0), (1, .fn 58 [.pp ((ci .u32) a1c0)]), (7, .int .i64 (a0.length : Int)), (8, .int .i64 p1)], []⟩) (O := (Sum.elim (fun z => OutE 0 (fun z => ⟨19, [], []⟩) z) (fun z => OutR Try.prog Try.f50 (.int .i64 z)))) ?_ (x := 0) (y := y4) (loopM_iter q12)) ?_
  · intro p1 y2 h1
    unfold M.slices_IndexFunc_api_Interface_api_Interface__model_Address_1_l1 at h1
    refine awp_seq ?_
    refine awp_reg [] [0, 1, 7, 8, 9] 0 ⟨19, [(0, sL 12 c_TInterface a0), (1, .fn 58 [.pp ((ci .u32) a1c0)]), (7, .int .i64 (a0.length : Int)), (8, .int .i64 p1), (9, .bool (decide (p1 < (a0.length : Int))))], []⟩ [] [] (by kernel_rfl) nil_all trivial ?_
    refine then_n ?_
    refine awp_seq ?_
    refine awp_cond (b := decide (p1 < (a0.length : Int))) (by kernel_rfl) (fun b2 => ?_) (fun b2 => ?_)
    · have h3 := cond_t b2 h1
      refine awp_skip ?_
      refine then_n ?_
      refine awp_seq ?_
      refine awp_block ?_
      refine awp_seq ?_
      refine awp_reg [] [0, 1, 5, 7, 8] 0 ⟨19, [(0, sL 12 c_TInterface a0), (1, .fn 58 [.pp ((ci .u32) a1c0)]), (5, .int .i64 p1), (7, .int .i64 (a0.length : Int)), (8, .int .i64 p1)], []⟩ [] [] (by kernel_rfl) nil_all trivial ?_
      refine then_n ?_
      refine awp_seq ?_
      obtain ⟨r3, q5, h6⟩ := bind_some h3
      obtain ⟨c7, h8⟩ := gd_some h6
      refine awp_reg [.pure (.bool r3)] [0, 1, 5, 7, 8, 16] 0 ⟨19, [(0, sL 12 c_TInterface a0), (1, .fn 58 [.pp ((ci .u32) a1c0)]), (5, .int .i64 p1), (7, .int .i64 (a0.length : Int)), (8, .int .i64 p1), (16, .bool r3)], []⟩ [decide (0 ≤ p1), decide (p1 < (a0.length : Int))] [⟨true, 58, [.agg (c_TInterface (a0.getD p1.toNat default)), .pp ((ci .u32) a1c0)], .pure (.bool r3)⟩] (by kernel_rfl) c7 ⟨fun _ => model_Address_1_ok (a0.getD p1.toNat default) a1c0 r3 q5, trivial⟩ ?_
      refine then_n ?_
      refine awp_cond (b := r3) (by kernel_rfl) (fun b9 => ?_) (fun b9 => ?_)
      · have h10 := cond_t b9 h8
        refine awp_seq ?_
        refine awp_reg [] [4] 0 ⟨19, [(4, .int .i64 p1)], []⟩ [] [] (by kernel_rfl) nil_all trivial ?_
        refine then_n ?_
        refine awp_ret ?_
        refine inb_r ?_
        refine then_r ?_
        obtain rfl := Option.some.inj h10
        exact round_r ⟨rfl, ends_r (.int .i64 p1) (by kernel_rfl) Sub.rfl⟩
      · have h11 := cond_f b9 h8
        refine awp_skip ?_
        refine inb_n ?_
        refine then_n ?_
        refine awp_reg [] [0, 1, 7, 8] 0 ⟨19, [(0, sL 12 c_TInterface a0), (1, .fn 58 [.pp ((ci .u32) a1c0)]), (7, .int .i64 (a0.length : Int)), (8, .int .i64 (wr .i64 (p1 + 1)))], []⟩ [] [] (by kernel_rfl) nil_all trivial ?_
        obtain rfl := Option.some.inj h11
        exact round_n (le_rfl)
    · have h4 := cond_f b2 h1
      refine awp_exit ?_
      refine then_e ?_
      obtain rfl := Option.some.inj h4
      exact round_e ⟨rfl, le_keep' [] (by kernel_rfl)⟩
  · intro e14 s15 o16
    rcases y4 with g5 | y6
    · have h17 := elim_l h13
      obtain ⟨rfl, l19⟩ := o16
      refine inb_here ?_
      refine then_le (s' := ⟨19, [], []⟩) (l19) ?_
      refine awp_seq ?_
      refine awp_reg [] [4] 0 ⟨19, [(4, .int .i64 (-1))], []⟩ [] [] (by kernel_rfl) nil_all trivial ?_
      refine then_n ?_
      refine awp_ret ?_
      obtain rfl := Option.some.inj h17
      exact ends_r (.int .i64 (-1)) (by kernel_rfl) Sub.rfl
    · have h18 := elim_r h13
      obtain ⟨rfl, n20⟩ := o16
      refine inb_r ?_
      refine then_r ?_
      obtain rfl := Option.some.inj h18
      exact n20

/- netverify/model.Address -/
noncomputable def M.model_Address (a0 : TRouter) (a1 : Int) : Option Int :=
  (M.slices_IndexFunc_api_Interface_api_Interface__model_Address_1 a0.fInterfaces a1).bind fun r1 => some r1
theorem model_Address_ok (a0 : TRouter) (a1 : Int) (r : Int) (h : M.model_Address a0 a1 = some r) : Fn Try.prog 23 [.agg (c_TRouter a0), .int .u32 a1] (.pure (.int .i64 r)) := by
  unfold M.model_Address at h
  refine fn_pure Try.func23 rfl (by kernel_rfl) ?_
  refine awp_seq ?_
  refine awp_reg [] [2, 3] 2 ⟨9, [(2, .ref 0 0), (3, .ref 1 0)], [.box (c_TRouter a0), .box [.int .u32 a1]]⟩ [] [] (by kernel_rfl) nil_all trivial ?_
  refine then_n ?_
  refine awp_seq ?_
  obtain ⟨r1, q1, h2⟩ := bind_some h
  refine awp_reg [.pure (.int .i64 r1)] [4] 0 ⟨9, [(4, .int .i64 r1)], []⟩ [] [⟨true, 50, [sL 12 c_TInterface a0.fInterfaces, .fn 58 [.pp ((ci .u32) a1)]], .pure (.int .i64 r1)⟩] (by kernel_rfl) nil_all ⟨fun _ => slices_IndexFunc_api_Interface_api_Interface__model_Address_1_ok a0.fInterfaces a1 r1 q1, trivial⟩ ?_
  refine then_n ?_
  refine awp_ret ?_
  obtain rfl := Option.some.inj h2
  exact ends_r (.int .i64 r1) (by kernel_rfl) Sub.rfl

/- netverify/netverifyref8.Address -/
noncomputable def M.ref8_Address_l1 (a0 : TRouter) (a1 : Int) (p1 : Int) : Option (Int ⊕ (Unit ⊕ Int)) :=
  bif decide (p1 < (a0.fInterfaces.length : Int)) then (gd [decide (0 ≤ p1), decide (p1 < (a0.fInterfaces.length : Int)), guardB (((a0.fInterfaces.getD p1.toNat default).fLen) != 0) (decide (0 ≤ p1)), guardB (((a0.fInterfaces.getD p1.toNat default).fLen) != 0) (decide (p1 < (a0.fInterfaces.length : Int)))] (bif (((a0.fInterfaces.getD p1.toNat default).fLen) != 0) && (((a0.fInterfaces.getD p1.toNat default).fAddr) == a1) then (some (.inr (.inr p1))) else (some (.inl (wr .i64 (p1 + 1)))))) else (some (.inr (.inl ())))
noncomputable def M.ref8_Address (a0 : TRouter) (a1 : Int) : Option Int :=
  (loopM (M.ref8_Address_l1 a0 a1) 0).bind fun y3 => Sum.elim (fun g4 => some (-1)) (fun y5 => some y5) y3
theorem ref8_Address_ok (a0 : TRouter) (a1 : Int) (r : Int) (h : M.ref8_Address a0 a1 = some r) : Fn Try.prog 24 [.agg (c_TRouter a0), .int .u32 a1] (.pure (.int .i64 r)) := by
  unfold M.ref8_Address at h
  refine fn_pure Try.func24 rfl (by kernel_rfl) ?_
  refine awp_seq ?_
  refine awp_reg [] [1, 2] 1 ⟨31, [(1, .int .u32 a1), (2, .ref 0 0)], [.box (c_TRouter a0)]⟩ [] [] (by kernel_rfl) nil_all trivial ?_
  refine then_n ?_
  refine awp_seq ?_
  refine awp_seq ?_
  refine awp_reg [] [1, 2, 5] 1 ⟨31, [(1, .int .u32 a1), (2, .ref 0 0), (5, .int .i64 0)], [.box (c_TRouter a0)]⟩ [] [] (by kernel_rfl) nil_all trivial ?_
  refine then_n ?_
  refine awp_block ?_
  obtain ⟨y3, q10, h11⟩ := bind_some h
  refine awp_le (s' := ⟨31, [(1, .int .u32 a1), (2, .ref 0 0), (5, .int .i64 0)], [.box (c_TRouter a0)]⟩) (le_rfl) ?_
  refine awp_mono (awp_loop (f := M.ref8_Address_l1 a0 a1) (S := fun (p1 : Int) => ⟨31, [(1, .int .u32 a1), (2, .ref 0 0), (5, .int .i64 p1)], [.box (c_TRouter a0)]⟩) (O := (Sum.elim (fun z => OutE 0 (fun z => ⟨31, [], []⟩) z) (fun z => OutR Try.prog Try.f24 (.int .i64 z)))) ?_ (x := 0) (y := y3) (loopM_iter q10)) ?_
  · intro p1 y2 h1
    unfold M.ref8_Address_l1 at h1
    refine awp_seq ?_
    refine awp_seq ?_
    refine awp_reg [] [1, 2, 5, 10] 1 ⟨31, [(1, .int .u32 a1), (2, .ref 0 0), (5, .int .i64 p1), (10, .bool (decide (p1 < (a0.fInterfaces.length : Int))))], [.box (c_TRouter a0)]⟩ [] [] (by kernel_rfl) nil_all trivial ?_
    refine then_n ?_
    refine awp_cond (b := decide (p1 < (a0.fInterfaces.length : Int))) (by kernel_rfl) (fun b2 => ?_) (fun b2 => ?_)
    · have h3 := cond_t b2 h1
      refine awp_skip ?_
      refine then_n ?_
      refine awp_seq ?_
      refine awp_block ?_
      refine awp_seq ?_
      obtain ⟨c5, h6⟩ := gd_some h3
      refine awp_reg [] [1, 2, 5, 29] 1 ⟨31, [(1, .int .u32 a1), (2, .ref 0 0), (5, .int .i64 p1), (29, .bool ((((a0.fInterfaces.getD p1.toNat default).fLen) != 0) && (((a0.fInterfaces.getD p1.toNat default).fAddr) == a1)))], [.box (c_TRouter a0)]⟩ [decide (0 ≤ p1), decide (p1 < (a0.fInterfaces.length : Int)), guardB (((a0.fInterfaces.getD p1.toNat default).fLen) != 0) (decide (0 ≤ p1)), guardB (((a0.fInterfaces.getD p1.toNat default).fLen) != 0) (decide (p1 < (a0.fInterfaces.length : Int)))] [] (by kernel_rfl) c5 trivial ?_
      refine then_n ?_
      refine awp_cond (b := (((a0.fInterfaces.getD p1.toNat default).fLen) != 0) && (((a0.fInterfaces.getD p1.toNat default).fAddr) == a1)) (by kernel_rfl) (fun b7 => ?_) (fun b7 => ?_)
      · have h8 := cond_t b7 h6
        refine awp_seq ?_
        refine awp_reg [] [4] 0 ⟨31, [(4, .int .i64 p1)], []⟩ [] [] (by kernel_rfl) nil_all trivial ?_
        refine then_n ?_
        refine awp_ret ?_
        refine inb_r ?_
        refine then_r ?_
        obtain rfl := Option.some.inj h8
        exact round_r ⟨rfl, ends_r (.int .i64 p1) (by kernel_rfl) Sub.rfl⟩
      · have h9 := cond_f b7 h6
        refine awp_skip ?_
        refine inb_n ?_
        refine then_n ?_
        refine awp_reg [] [1, 2, 5] 1 ⟨31, [(1, .int .u32 a1), (2, .ref 0 0), (5, .int .i64 (wr .i64 (p1 + 1)))], [.box (c_TRouter a0)]⟩ [] [] (by kernel_rfl) nil_all trivial ?_
        obtain rfl := Option.some.inj h9
        exact round_n (le_rfl)
    · have h4 := cond_f b2 h1
      refine awp_exit ?_
      refine then_e ?_
      obtain rfl := Option.some.inj h4
      exact round_e ⟨rfl, Le.trans (s' := ⟨31, [], [.box (c_TRouter a0)]⟩) (le_keep' [] (by kernel_rfl)) (le_cut (n := 0) (by kernel_rfl))⟩
  · intro e12 s13 o14
    rcases y3 with g4 | y5
    · have h15 := elim_l h11
      obtain ⟨rfl, l17⟩ := o14
      refine inb_here ?_
      refine then_le (s' := ⟨31, [], []⟩) (l17) ?_
      refine awp_seq ?_
      refine awp_reg [] [4] 0 ⟨31, [(4, .int .i64 (-1))], []⟩ [] [] (by kernel_rfl) nil_all trivial ?_
      refine then_n ?_
      refine awp_ret ?_
      obtain rfl := Option.some.inj h15
      exact ends_r (.int .i64 (-1)) (by kernel_rfl) Sub.rfl
    · have h16 := elim_r h11
      obtain ⟨rfl, n18⟩ := o14
      refine inb_r ?_
      refine then_r ?_
      obtain rfl := Option.some.inj h16
      exact n18

/- netverify/netverifylaw5.sample -/
noncomputable def M.law5_sample  : Option TRouter :=
  some (⟨(⟨#[114, 49]⟩ : ByteArray), 65001, ([(⟨(⟨#[101, 48]⟩ : ByteArray), 167772161, 24, 0, false, true, 0, 10, false, (⟨#[97]⟩ : ByteArray), (⟨#[]⟩ : ByteArray), 0⟩ : TInterface), (⟨(⟨#[101, 49]⟩ : ByteArray), 167772417, 24, 0, false, false, 0, 0, true, (⟨#[]⟩ : ByteArray), (⟨#[]⟩ : ByteArray), 0⟩ : TInterface)] : List TInterface), ([(⟨(⟨#[112]⟩ : ByteArray), ([(⟨true, (⟨167772160, 8⟩ : TPrefix), 8, 32⟩ : TPrefixRule)] : List TPrefixRule)⟩ : TPrefixList)] : List TPrefixList), ([(⟨(⟨#[109]⟩ : ByteArray), ([(⟨true, (⟨#[112]⟩ : ByteArray), (-1), 5, (-1), (-1), 0⟩ : TClause)] : List TClause)⟩ : TRouteMap)] : List TRouteMap), ([(⟨(⟨#[97]⟩ : ByteArray), ([(⟨true, 6, (⟨0, 4294967295⟩ : TWildcard), (⟨0, 4294967295⟩ : TWildcard), (⟨0, 65535⟩ : TPortRange), (⟨80, 80⟩ : TPortRange)⟩ : TRule)] : List TRule)⟩ : TACL)] : List TACL), ([(⟨1, 167772165, 3221225989, 0, 0, 0, (⟨#[]⟩ : ByteArray), 0, 0⟩ : TTranslation)] : List TTranslation), ([(⟨(⟨3232235520, 16⟩ : TPrefix), 167772418, (⟨#[]⟩ : ByteArray), false, 1, 0⟩ : TStaticRoute)] : List TStaticRoute), (⟨true, 110, ([] : List TAreaRange), ([(⟨2, 20, 0, (⟨#[109]⟩ : ByteArray), 2⟩ : TRedist)] : List TRedist)⟩ : TLinkState), (⟨true, 120, (⟨#[]⟩ : ByteArray), (⟨#[112]⟩ : ByteArray), ([] : List TRedist)⟩ : TDistanceVector), (⟨true, 20, 200, ([(⟨167772418, 65002, (⟨#[109]⟩ : ByteArray), (⟨#[]⟩ : ByteArray)⟩ : TNeighbor)] : List TNeighbor), ([(⟨167772160, 24⟩ : TPrefix)] : List TPrefix), ([] : List TAggregate), ([] : List TCondition), ([] : List TRedist)⟩ : TPathVector)⟩ : TRouter)
theorem law5_sample_ok  (r : TRouter) (h : M.law5_sample = some r) : Fn Try.prog 44 [] (.pure (.agg (c_TRouter r))) := by
  unfold M.law5_sample at h
  refine fn_pure Try.func44 rfl (by kernel_rfl) ?_
  refine awp_seq ?_
  refine awp_reg [] [0] 1 ⟨36, [(0, .ref 0 0)], [.box [.str (⟨#[]⟩ : ByteArray), .int .i64 0, .sl true 12 0 (fun _ => []), .sl true 2 0 (fun _ => []), .sl true 2 0 (fun _ => []), .sl true 2 0 (fun _ => []), .sl true 9 0 (fun _ => []), .sl true 7 0 (fun _ => []), .bool false, .int .i64 0, .sl true 3 0 (fun _ => []), .sl true 5 0 (fun _ => []), .bool false, .int .i64 0, .str (⟨#[]⟩ : ByteArray), .str (⟨#[]⟩ : ByteArray), .sl true 5 0 (fun _ => []), .bool false, .int .i64 0, .int .i64 0, .sl true 4 0 (fun _ => []), .sl true 2 0 (fun _ => []), .sl true 3 0 (fun _ => []), .sl true 5 0 (fun _ => []), .sl true 5 0 (fun _ => [])]]⟩ [] [] (by kernel_rfl) nil_all trivial ?_
  refine then_n ?_
  refine awp_seq ?_
  refine awp_reg [] [0] 1 ⟨36, [(0, .ref 0 0)], [.box [.str (⟨#[114, 49]⟩ : ByteArray), .int .i64 65001, .sl true 12 2 (fun i => List.take 12 (List.drop (i * 12) [.str (⟨#[101, 48]⟩ : ByteArray), .int .u32 167772161, .int .i64 24, .int .i64 0, .bool false, .bool true, .int .i64 0, .int .i64 10, .bool false, .str (⟨#[97]⟩ : ByteArray), .str (⟨#[]⟩ : ByteArray), .int .i64 0, .str (⟨#[101, 49]⟩ : ByteArray), .int .u32 167772417, .int .i64 24, .int .i64 0, .bool false, .bool false, .int .i64 0, .int .i64 0, .bool true, .str (⟨#[]⟩ : ByteArray), .str (⟨#[]⟩ : ByteArray), .int .i64 0])), .sl true 2 1 (fun i => List.take 2 (List.drop (i * 2) [.str (⟨#[112]⟩ : ByteArray), .sl true 5 1 (fun i => List.take 5 (List.drop (i * 5) [.bool true, .int .u32 167772160, .int .i64 8, .int .i64 8, .int .i64 32]))])), .sl true 2 1 (fun i => List.take 2 (List.drop (i * 2) [.str (⟨#[109]⟩ : ByteArray), .sl true 7 1 (fun i => List.take 7 (List.drop (i * 7) [.bool true, .str (⟨#[112]⟩ : ByteArray), .int .i64 (-1), .int .i64 5, .int .i64 (-1), .int .i64 (-1), .int .i64 0]))])), .sl true 2 1 (fun i => List.take 2 (List.drop (i * 2) [.str (⟨#[97]⟩ : ByteArray), .sl true 10 1 (fun i => List.take 10 (List.drop (i * 10) [.bool true, .int .i64 6, .int .u32 0, .int .u32 4294967295, .int .u32 0, .int .u32 4294967295, .int .i64 0, .int .i64 65535, .int .i64 80, .int .i64 80]))])), .sl true 9 1 (fun i => List.take 9 (List.drop (i * 9) [.int .i64 1, .int .u32 167772165, .int .u32 3221225989, .int .i64 0, .int .i64 0, .int .i64 0, .str (⟨#[]⟩ : ByteArray), .int .u32 0, .int .u32 0])), .sl true 7 1 (fun i => List.take 7 (List.drop (i * 7) [.int .u32 3232235520, .int .i64 16, .int .u32 167772418, .str (⟨#[]⟩ : ByteArray), .bool false, .int .i64 1, .int .i64 0])), .bool true, .int .i64 110, .sl true 3 0 (fun _ => []), .sl true 5 1 (fun i => List.take 5 (List.drop (i * 5) [.int .i64 2, .int .i64 20, .int .i64 0, .str (⟨#[109]⟩ : ByteArray), .int .i64 2])), .bool true, .int .i64 120, .str (⟨#[]⟩ : ByteArray), .str (⟨#[112]⟩ : ByteArray), .sl true 5 0 (fun _ => []), .bool true, .int .i64 20, .int .i64 200, .sl true 4 1 (fun i => List.take 4 (List.drop (i * 4) [.int .u32 167772418, .int .i64 65002, .str (⟨#[109]⟩ : ByteArray), .str (⟨#[]⟩ : ByteArray)])), .sl true 2 1 (fun i => List.take 2 (List.drop (i * 2) [.int .u32 167772160, .int .i64 24])), .sl true 3 0 (fun _ => []), .sl true 5 0 (fun _ => []), .sl true 5 0 (fun _ => [])]]⟩ [] [] (by kernel_rfl) nil_all trivial ?_
  refine then_n ?_
  refine awp_ret ?_
  obtain rfl := Option.some.inj h
  exact ends_r (.agg [.str (⟨#[114, 49]⟩ : ByteArray), .int .i64 65001, .sl false 12 2 (fun i => List.take 12 (List.drop (i * 12) [.str (⟨#[101, 48]⟩ : ByteArray), .int .u32 167772161, .int .i64 24, .int .i64 0, .bool false, .bool true, .int .i64 0, .int .i64 10, .bool false, .str (⟨#[97]⟩ : ByteArray), .str (⟨#[]⟩ : ByteArray), .int .i64 0, .str (⟨#[101, 49]⟩ : ByteArray), .int .u32 167772417, .int .i64 24, .int .i64 0, .bool false, .bool false, .int .i64 0, .int .i64 0, .bool true, .str (⟨#[]⟩ : ByteArray), .str (⟨#[]⟩ : ByteArray), .int .i64 0])), .sl false 2 1 (fun i => List.take 2 (List.drop (i * 2) [.str (⟨#[112]⟩ : ByteArray), .sl true 5 1 (fun i => List.take 5 (List.drop (i * 5) [.bool true, .int .u32 167772160, .int .i64 8, .int .i64 8, .int .i64 32]))])), .sl false 2 1 (fun i => List.take 2 (List.drop (i * 2) [.str (⟨#[109]⟩ : ByteArray), .sl true 7 1 (fun i => List.take 7 (List.drop (i * 7) [.bool true, .str (⟨#[112]⟩ : ByteArray), .int .i64 (-1), .int .i64 5, .int .i64 (-1), .int .i64 (-1), .int .i64 0]))])), .sl false 2 1 (fun i => List.take 2 (List.drop (i * 2) [.str (⟨#[97]⟩ : ByteArray), .sl true 10 1 (fun i => List.take 10 (List.drop (i * 10) [.bool true, .int .i64 6, .int .u32 0, .int .u32 4294967295, .int .u32 0, .int .u32 4294967295, .int .i64 0, .int .i64 65535, .int .i64 80, .int .i64 80]))])), .sl false 9 1 (fun i => List.take 9 (List.drop (i * 9) [.int .i64 1, .int .u32 167772165, .int .u32 3221225989, .int .i64 0, .int .i64 0, .int .i64 0, .str (⟨#[]⟩ : ByteArray), .int .u32 0, .int .u32 0])), .sl false 7 1 (fun i => List.take 7 (List.drop (i * 7) [.int .u32 3232235520, .int .i64 16, .int .u32 167772418, .str (⟨#[]⟩ : ByteArray), .bool false, .int .i64 1, .int .i64 0])), .bool true, .int .i64 110, .sl false 3 0 (fun _ => []), .sl false 5 1 (fun i => List.take 5 (List.drop (i * 5) [.int .i64 2, .int .i64 20, .int .i64 0, .str (⟨#[109]⟩ : ByteArray), .int .i64 2])), .bool true, .int .i64 120, .str (⟨#[]⟩ : ByteArray), .str (⟨#[112]⟩ : ByteArray), .sl false 5 0 (fun _ => []), .bool true, .int .i64 20, .int .i64 200, .sl false 4 1 (fun i => List.take 4 (List.drop (i * 4) [.int .u32 167772418, .int .i64 65002, .str (⟨#[109]⟩ : ByteArray), .str (⟨#[]⟩ : ByteArray)])), .sl false 2 1 (fun i => List.take 2 (List.drop (i * 2) [.int .u32 167772160, .int .i64 24])), .sl false 3 0 (fun _ => []), .sl false 5 0 (fun _ => []), .sl false 5 0 (fun _ => [])]) (by kernel_rfl) (sub_agg (.cons CSub.rfl (.cons CSub.rfl (.cons (csub_sl rfl (fun i hi => match i, hi with | 0, _ => rfl | 1, _ => rfl | n + 2, h => absurd h (by omega))) (.cons (csub_psl rfl (fun i hi => match i, hi with | 0, _ => (.cons PSub.rfl (.cons (psub_sl rfl (fun i hi => match i, hi with | 0, _ => (.cons PSub.rfl (.cons PSub.rfl (.cons PSub.rfl (.cons PSub.rfl (.cons PSub.rfl .nil))))) | n + 1, h => absurd h (by omega))) .nil)) | n + 1, h => absurd h (by omega))) (.cons (csub_psl rfl (fun i hi => match i, hi with | 0, _ => (.cons PSub.rfl (.cons (psub_sl rfl (fun i hi => match i, hi with | 0, _ => (.cons PSub.rfl (.cons PSub.rfl (.cons PSub.rfl (.cons PSub.rfl (.cons PSub.rfl (.cons PSub.rfl (.cons PSub.rfl .nil))))))) | n + 1, h => absurd h (by omega))) .nil)) | n + 1, h => absurd h (by omega))) (.cons (csub_psl rfl (fun i hi => match i, hi with | 0, _ => (.cons PSub.rfl (.cons (psub_sl rfl (fun i hi => match i, hi with | 0, _ => (.cons PSub.rfl (.cons PSub.rfl (.cons PSub.rfl (.cons PSub.rfl (.cons PSub.rfl (.cons PSub.rfl (.cons PSub.rfl (.cons PSub.rfl (.cons PSub.rfl (.cons PSub.rfl .nil)))))))))) | n + 1, h => absurd h (by omega))) .nil)) | n + 1, h => absurd h (by omega))) (.cons (csub_sl rfl (fun i hi => match i, hi with | 0, _ => rfl | n + 1, h => absurd h (by omega))) (.cons (csub_sl rfl (fun i hi => match i, hi with | 0, _ => rfl | n + 1, h => absurd h (by omega))) (.cons CSub.rfl (.cons CSub.rfl (.cons csub_nil (.cons (csub_sl rfl (fun i hi => match i, hi with | 0, _ => rfl | n + 1, h => absurd h (by omega))) (.cons CSub.rfl (.cons CSub.rfl (.cons CSub.rfl (.cons CSub.rfl (.cons csub_nil (.cons CSub.rfl (.cons CSub.rfl (.cons CSub.rfl (.cons (csub_sl rfl (fun i hi => match i, hi with | 0, _ => rfl | n + 1, h => absurd h (by omega))) (.cons (csub_sl rfl (fun i hi => match i, hi with | 0, _ => rfl | n + 1, h => absurd h (by omega))) (.cons csub_nil (.cons csub_nil (.cons csub_nil .nil))))))))))))))))))))))))))

/- netverify/scan.letter -/
noncomputable def M.scan_letter (a0 : Int) : Option Bool :=
  some (((decide (65 ≤ a0)) && (decide (a0 ≤ 90))) || ((decide (97 ≤ a0)) && (decide (a0 ≤ 122))))
theorem scan_letter_ok (a0 : Int) (r : Bool) (h : M.scan_letter a0 = some r) : Fn Try.prog 82 [.int .u8 a0] (.pure (.bool r)) := by
  unfold M.scan_letter at h
  refine fn_pure Try.func82 rfl (by kernel_rfl) ?_
  refine awp_seq ?_
  refine awp_reg [] [0] 0 ⟨17, [(0, .int .u8 a0)], []⟩ [] [] (by kernel_rfl) nil_all trivial ?_
  refine then_n ?_
  refine awp_seq ?_
  refine awp_reg [] [2] 0 ⟨17, [(2, .bool (((decide (65 ≤ a0)) && (decide (a0 ≤ 90))) || ((decide (97 ≤ a0)) && (decide (a0 ≤ 122)))))], []⟩ [] [] (by kernel_rfl) nil_all trivial ?_
  refine then_n ?_
  refine awp_ret ?_
  obtain rfl := Option.some.inj h
  exact ends_r (.bool (((decide (65 ≤ a0)) && (decide (a0 ≤ 90))) || ((decide (97 ≤ a0)) && (decide (a0 ≤ 122))))) (by kernel_rfl) Sub.rfl

/- netverify/scan.digit -/
noncomputable def M.scan_digit (a0 : Int) : Option Bool :=
  some ((decide (48 ≤ a0)) && (decide (a0 ≤ 57)))
theorem scan_digit_ok (a0 : Int) (r : Bool) (h : M.scan_digit a0 = some r) : Fn Try.prog 83 [.int .u8 a0] (.pure (.bool r)) := by
  unfold M.scan_digit at h
  refine fn_pure Try.func83 rfl (by kernel_rfl) ?_
  refine awp_seq ?_
  refine awp_reg [] [0] 0 ⟨9, [(0, .int .u8 a0)], []⟩ [] [] (by kernel_rfl) nil_all trivial ?_
  refine then_n ?_
  refine awp_seq ?_
  refine awp_reg [] [2] 0 ⟨9, [(2, .bool ((decide (48 ≤ a0)) && (decide (a0 ≤ 57))))], []⟩ [] [] (by kernel_rfl) nil_all trivial ?_
  refine then_n ?_
  refine awp_ret ?_
  obtain rfl := Option.some.inj h
  exact ends_r (.bool ((decide (48 ≤ a0)) && (decide (a0 ≤ 57)))) (by kernel_rfl) Sub.rfl

/- netverify/scan.Name -/
noncomputable def M.scan_Name_l1 (a0 : ByteArray) (p2 : Int) : Option (Int ⊕ (Unit ⊕ Bool)) :=
  bif decide (p2 < (a0.size : Int)) then (gd [decide (0 ≤ p2), decide (p2 < (a0.size : Int))] ((M.scan_letter (byteAt a0 p2)).bind fun r4 => (gc (!r4) (M.scan_digit (byteAt a0 p2))).bind fun r5 => bif (((((!r4) && (!r5)) && ((byteAt a0 p2) != 45)) && ((byteAt a0 p2) != 95)) && ((byteAt a0 p2) != 47)) && ((byteAt a0 p2) != 46) then (some (.inr (.inr false))) else (some (.inl (wr .i64 (p2 + 1)))))) else (some (.inr (.inl ())))
noncomputable def M.scan_Name (a0 : ByteArray) : Option Bool :=
  (gc (!((decide ((a0.size : Int) < 1)) || (decide ((a0.size : Int) > 15)))) (M.scan_letter (byteAt a0 0))).bind fun r1 => gd [guardB (!((decide ((a0.size : Int) < 1)) || (decide ((a0.size : Int) > 15)))) (decide (0 ≤ 0)), guardB (!((decide ((a0.size : Int) < 1)) || (decide ((a0.size : Int) > 15)))) (decide (0 < (a0.size : Int)))] (bif ((decide ((a0.size : Int) < 1)) || (decide ((a0.size : Int) > 15))) || (!r1) then (some false) else ((loopM (M.scan_Name_l1 a0) 1).bind fun y6 => Sum.elim (fun g7 => some true) (fun y8 => some y8) y6))
theorem scan_Name_ok (a0 : ByteArray) (r : Bool) (h : M.scan_Name a0 = some r) : Fn Try.prog 60 [.str a0] (.pure (.bool r)) := by
  unfold M.scan_Name at h
  refine fn_pure Try.func60 rfl (by kernel_rfl) ?_
  refine awp_seq ?_
  refine awp_reg [] [0] 0 ⟨52, [(0, .str a0)], []⟩ [] [] (by kernel_rfl) nil_all trivial ?_
  refine then_n ?_
  refine awp_seq ?_
  refine awp_seq ?_
  obtain ⟨r1, q1, h2⟩ := bind_some h
  obtain ⟨c3, h4⟩ := gd_some h2
  refine awp_reg [.pure (.bool r1)] [0, 18] 0 ⟨52, [(0, .str a0), (18, .bool (((decide ((a0.size : Int) < 1)) || (decide ((a0.size : Int) > 15))) || (!r1)))], []⟩ [guardB (!((decide ((a0.size : Int) < 1)) || (decide ((a0.size : Int) > 15)))) (decide (0 ≤ 0)), guardB (!((decide ((a0.size : Int) < 1)) || (decide ((a0.size : Int) > 15)))) (decide (0 < (a0.size : Int)))] [⟨(!((decide ((a0.size : Int) < 1)) || (decide ((a0.size : Int) > 15)))), 82, [.int .u8 (byteAt a0 0)], .pure (.bool r1)⟩] (by kernel_rfl) c3 ⟨fun hg => scan_letter_ok (byteAt a0 0) r1 (gc_some q1 hg), trivial⟩ ?_
  refine then_n ?_
  refine awp_cond (b := ((decide ((a0.size : Int) < 1)) || (decide ((a0.size : Int) > 15))) || (!r1)) (by kernel_rfl) (fun b5 => ?_) (fun b5 => ?_)
  · have h6 := cond_t b5 h4
    refine awp_seq ?_
    refine awp_reg [] [2] 0 ⟨52, [(2, .bool false)], []⟩ [] [] (by kernel_rfl) nil_all trivial ?_
    refine then_n ?_
    refine awp_ret ?_
    refine then_r ?_
    obtain rfl := Option.some.inj h6
    exact ends_r (.bool false) (by kernel_rfl) Sub.rfl
  · have h7 := cond_f b5 h4
    refine awp_skip ?_
    refine then_n ?_
    refine awp_seq ?_
    refine awp_seq ?_
    refine awp_reg [] [0, 3] 0 ⟨52, [(0, .str a0), (3, .int .i64 1)], []⟩ [] [] (by kernel_rfl) nil_all trivial ?_
    refine then_n ?_
    refine awp_block ?_
    obtain ⟨y6, q21, h22⟩ := bind_some h7
    refine awp_le (s' := ⟨52, [(0, .str a0), (3, .int .i64 1)], []⟩) (le_rfl) ?_
    refine awp_mono (awp_loop (f := M.scan_Name_l1 a0) (S := fun (p2 : Int) => ⟨52, [(0, .str a0), (3, .int .i64 p2)], []⟩) (O := (Sum.elim (fun z => OutE 0 (fun z => ⟨52, [], []⟩) z) (fun z => OutR Try.prog Try.f60 (.bool z)))) ?_ (x := 1) (y := y6) (loopM_iter q21)) ?_
    · intro p2 y3 h8
      unfold M.scan_Name_l1 at h8
      refine awp_seq ?_
      refine awp_seq ?_
      refine awp_reg [] [0, 3, 22] 0 ⟨52, [(0, .str a0), (3, .int .i64 p2), (22, .bool (decide (p2 < (a0.size : Int))))], []⟩ [] [] (by kernel_rfl) nil_all trivial ?_
      refine then_n ?_
      refine awp_cond (b := decide (p2 < (a0.size : Int))) (by kernel_rfl) (fun b9 => ?_) (fun b9 => ?_)
      · have h10 := cond_t b9 h8
        refine awp_skip ?_
        refine then_n ?_
        refine awp_seq ?_
        refine awp_block ?_
        refine awp_seq ?_
        obtain ⟨c12, h13⟩ := gd_some h10
        refine awp_reg [] [0, 3, 4] 0 ⟨52, [(0, .str a0), (3, .int .i64 p2), (4, .int .u8 (byteAt a0 p2))], []⟩ [decide (0 ≤ p2), decide (p2 < (a0.size : Int))] [] (by kernel_rfl) c12 trivial ?_
        refine then_n ?_
        refine awp_seq ?_
        obtain ⟨r4, q14, h15⟩ := bind_some h13
        obtain ⟨r5, q16, h17⟩ := bind_some h15
        refine awp_reg [.pure (.bool r4), .pure (.bool r5)] [0, 3, 51] 0 ⟨52, [(0, .str a0), (3, .int .i64 p2), (51, .bool ((((((!r4) && (!r5)) && ((byteAt a0 p2) != 45)) && ((byteAt a0 p2) != 95)) && ((byteAt a0 p2) != 47)) && ((byteAt a0 p2) != 46)))], []⟩ [] [⟨true, 82, [.int .u8 (byteAt a0 p2)], .pure (.bool r4)⟩, ⟨!r4, 83, [.int .u8 (byteAt a0 p2)], .pure (.bool r5)⟩] (by kernel_rfl) nil_all ⟨fun _ => scan_letter_ok (byteAt a0 p2) r4 q14, fun hg => scan_digit_ok (byteAt a0 p2) r5 (gc_some q16 hg), trivial⟩ ?_
        refine then_n ?_
        refine awp_cond (b := (((((!r4) && (!r5)) && ((byteAt a0 p2) != 45)) && ((byteAt a0 p2) != 95)) && ((byteAt a0 p2) != 47)) && ((byteAt a0 p2) != 46)) (by kernel_rfl) (fun b18 => ?_) (fun b18 => ?_)
        · have h19 := cond_t b18 h17
          refine awp_seq ?_
          refine awp_reg [] [2] 0 ⟨52, [(2, .bool false)], []⟩ [] [] (by kernel_rfl) nil_all trivial ?_
          refine then_n ?_
          refine awp_ret ?_
          refine inb_r ?_
          refine then_r ?_
          obtain rfl := Option.some.inj h19
          exact round_r ⟨rfl, ends_r (.bool false) (by kernel_rfl) Sub.rfl⟩
        · have h20 := cond_f b18 h17
          refine awp_skip ?_
          refine inb_n ?_
          refine then_n ?_
          refine awp_reg [] [0, 3] 0 ⟨52, [(0, .str a0), (3, .int .i64 (wr .i64 (p2 + 1)))], []⟩ [] [] (by kernel_rfl) nil_all trivial ?_
          obtain rfl := Option.some.inj h20
          exact round_n (le_rfl)
      · have h11 := cond_f b9 h8
        refine awp_exit ?_
        refine then_e ?_
        obtain rfl := Option.some.inj h11
        exact round_e ⟨rfl, le_keep' [] (by kernel_rfl)⟩
    · intro e23 s24 o25
      rcases y6 with g7 | y8
      · have h26 := elim_l h22
        obtain ⟨rfl, l28⟩ := o25
        refine inb_here ?_
        refine then_le (s' := ⟨52, [], []⟩) (l28) ?_
        refine awp_seq ?_
        refine awp_reg [] [2] 0 ⟨52, [(2, .bool true)], []⟩ [] [] (by kernel_rfl) nil_all trivial ?_
        refine then_n ?_
        refine awp_ret ?_
        obtain rfl := Option.some.inj h26
        exact ends_r (.bool true) (by kernel_rfl) Sub.rfl
      · have h27 := elim_r h22
        obtain ⟨rfl, n29⟩ := o25
        refine inb_r ?_
        refine then_r ?_
        obtain rfl := Option.some.inj h27
        exact n29

/- netverify/model.within -/
noncomputable def M.model_within (a0 : Int) (a1 : Int) (a2 : Int) : Option Bool :=
  some ((decide (a1 ≤ a0)) && (decide (a0 ≤ a2)))
theorem model_within_ok (a0 : Int) (a1 : Int) (a2 : Int) (r : Bool) (h : M.model_within a0 a1 a2 = some r) : Fn Try.prog 61 [.int .i64 a0, .int .i64 a1, .int .i64 a2] (.pure (.bool r)) := by
  unfold M.model_within at h
  refine fn_pure Try.func61 rfl (by kernel_rfl) ?_
  refine awp_seq ?_
  refine awp_reg [] [0, 1, 2] 0 ⟨15, [(0, .int .i64 a0), (1, .int .i64 a1), (2, .int .i64 a2)], []⟩ [] [] (by kernel_rfl) nil_all trivial ?_
  refine then_n ?_
  refine awp_seq ?_
  refine awp_reg [] [6] 0 ⟨15, [(6, .bool ((decide (a1 ≤ a0)) && (decide (a0 ≤ a2))))], []⟩ [] [] (by kernel_rfl) nil_all trivial ?_
  refine then_n ?_
  refine awp_ret ?_
  obtain rfl := Option.some.inj h
  exact ends_r (.bool ((decide (a1 ≤ a0)) && (decide (a0 ≤ a2)))) (by kernel_rfl) Sub.rfl

/- netverify/model.rightInterface -/
noncomputable def M.model_rightInterface (a0 : TInterface) : Option Bool :=
  (M.model_within a0.fLen 0 32).bind fun r1 => (gc (!(!r1)) (M.model_within a0.fVLAN 0 4094)).bind fun r2 => (gc (!((!r1) || (!r2))) (M.model_within a0.fSide 0 2)).bind fun r3 => bif ((!r1) || (!r2)) || (!r3) then (some false) else (bif (a0.fLen == 0) && (((((((a0.fAddr != 0) || (a0.fVLAN != 0)) || (a0.fSide != 0)) || a0.fLS) || a0.fDV) || (!strEq a0.fIn (⟨#[]⟩ : ByteArray))) || (!strEq a0.fOut (⟨#[]⟩ : ByteArray))) then (some false) else (bif (a0.fLen != 0) && (a0.fAddr == 0) then (some false) else (bif a0.fLS then ((M.model_within a0.fArea 0 255).bind fun r4 => (gc r4 (M.model_within a0.fCost 1 65535)).bind fun r5 => some (r4 && r5)) else (some ((a0.fArea == 0) && (a0.fCost == 0))))))
theorem model_rightInterface_ok (a0 : TInterface) (r : Bool) (h : M.model_rightInterface a0 = some r) : Fn Try.prog 84 [.agg (c_TInterface a0)] (.pure (.bool r)) := by
  unfold M.model_rightInterface at h
  refine fn_pure Try.func84 rfl (by kernel_rfl) ?_
  refine awp_seq ?_
  refine awp_reg [] [1] 1 ⟨81, [(1, .ref 0 0)], [.box (c_TInterface a0)]⟩ [] [] (by kernel_rfl) nil_all trivial ?_
  refine then_n ?_
  refine awp_seq ?_
  refine awp_seq ?_
  obtain ⟨r1, q1, h2⟩ := bind_some h
  obtain ⟨r2, q3, h4⟩ := bind_some h2
  obtain ⟨r3, q5, h6⟩ := bind_some h4
  refine awp_reg [.pure (.bool r1), .pure (.bool r2), .pure (.bool r3)] [1, 18] 1 ⟨81, [(1, .ref 0 0), (18, .bool (((!r1) || (!r2)) || (!r3)))], [.box (c_TInterface a0)]⟩ [] [⟨true, 61, [.int .i64 a0.fLen, .int .i64 0, .int .i64 32], .pure (.bool r1)⟩, ⟨(!(!r1)), 61, [.int .i64 a0.fVLAN, .int .i64 0, .int .i64 4094], .pure (.bool r2)⟩, ⟨(!((!r1) || (!r2))), 61, [.int .i64 a0.fSide, .int .i64 0, .int .i64 2], .pure (.bool r3)⟩] (by kernel_rfl) nil_all ⟨fun _ => model_within_ok a0.fLen 0 32 r1 q1, fun hg => model_within_ok a0.fVLAN 0 4094 r2 (gc_some q3 hg), fun hg => model_within_ok a0.fSide 0 2 r3 (gc_some q5 hg), trivial⟩ ?_
  refine then_n ?_
  refine awp_cond (b := ((!r1) || (!r2)) || (!r3)) (by kernel_rfl) (fun b7 => ?_) (fun b7 => ?_)
  · have h8 := cond_t b7 h6
    refine awp_seq ?_
    refine awp_reg [] [2] 0 ⟨81, [(2, .bool false)], []⟩ [] [] (by kernel_rfl) nil_all trivial ?_
    refine then_n ?_
    refine awp_ret ?_
    refine then_r ?_
    obtain rfl := Option.some.inj h8
    exact ends_r (.bool false) (by kernel_rfl) Sub.rfl
  · have h9 := cond_f b7 h6
    refine awp_skip ?_
    refine then_n ?_
    refine awp_seq ?_
    refine awp_seq ?_
    refine awp_reg [] [1, 54] 1 ⟨81, [(1, .ref 0 0), (54, .bool ((a0.fLen == 0) && (((((((a0.fAddr != 0) || (a0.fVLAN != 0)) || (a0.fSide != 0)) || a0.fLS) || a0.fDV) || (!strEq a0.fIn (⟨#[]⟩ : ByteArray))) || (!strEq a0.fOut (⟨#[]⟩ : ByteArray)))))], [.box (c_TInterface a0)]⟩ [] [] (by kernel_rfl) nil_all trivial ?_
    refine then_n ?_
    refine awp_cond (b := (a0.fLen == 0) && (((((((a0.fAddr != 0) || (a0.fVLAN != 0)) || (a0.fSide != 0)) || a0.fLS) || a0.fDV) || (!strEq a0.fIn (⟨#[]⟩ : ByteArray))) || (!strEq a0.fOut (⟨#[]⟩ : ByteArray)))) (by kernel_rfl) (fun b10 => ?_) (fun b10 => ?_)
    · have h11 := cond_t b10 h9
      refine awp_seq ?_
      refine awp_reg [] [2] 0 ⟨81, [(2, .bool false)], []⟩ [] [] (by kernel_rfl) nil_all trivial ?_
      refine then_n ?_
      refine awp_ret ?_
      refine then_r ?_
      obtain rfl := Option.some.inj h11
      exact ends_r (.bool false) (by kernel_rfl) Sub.rfl
    · have h12 := cond_f b10 h9
      refine awp_skip ?_
      refine then_n ?_
      refine awp_seq ?_
      refine awp_seq ?_
      refine awp_reg [] [1, 62] 1 ⟨81, [(1, .ref 0 0), (62, .bool ((a0.fLen != 0) && (a0.fAddr == 0)))], [.box (c_TInterface a0)]⟩ [] [] (by kernel_rfl) nil_all trivial ?_
      refine then_n ?_
      refine awp_cond (b := (a0.fLen != 0) && (a0.fAddr == 0)) (by kernel_rfl) (fun b13 => ?_) (fun b13 => ?_)
      · have h14 := cond_t b13 h12
        refine awp_seq ?_
        refine awp_reg [] [2] 0 ⟨81, [(2, .bool false)], []⟩ [] [] (by kernel_rfl) nil_all trivial ?_
        refine then_n ?_
        refine awp_ret ?_
        refine then_r ?_
        obtain rfl := Option.some.inj h14
        exact ends_r (.bool false) (by kernel_rfl) Sub.rfl
      · have h15 := cond_f b13 h12
        refine awp_skip ?_
        refine then_n ?_
        refine awp_seq ?_
        refine awp_seq ?_
        refine awp_reg [] [1, 64] 1 ⟨81, [(1, .ref 0 0), (64, .bool a0.fLS)], [.box (c_TInterface a0)]⟩ [] [] (by kernel_rfl) nil_all trivial ?_
        refine then_n ?_
        refine awp_cond (b := a0.fLS) (by kernel_rfl) (fun b16 => ?_) (fun b16 => ?_)
        · have h17 := cond_t b16 h15
          refine awp_seq ?_
          obtain ⟨r4, q19, h20⟩ := bind_some h17
          obtain ⟨r5, q21, h22⟩ := bind_some h20
          refine awp_reg [.pure (.bool r4), .pure (.bool r5)] [2] 0 ⟨81, [(2, .bool (r4 && r5))], []⟩ [] [⟨true, 61, [.int .i64 a0.fArea, .int .i64 0, .int .i64 255], .pure (.bool r4)⟩, ⟨r4, 61, [.int .i64 a0.fCost, .int .i64 1, .int .i64 65535], .pure (.bool r5)⟩] (by kernel_rfl) nil_all ⟨fun _ => model_within_ok a0.fArea 0 255 r4 q19, fun hg => model_within_ok a0.fCost 1 65535 r5 (gc_some q21 hg), trivial⟩ ?_
          refine then_n ?_
          refine awp_ret ?_
          refine then_r ?_
          obtain rfl := Option.some.inj h22
          exact ends_r (.bool (r4 && r5)) (by kernel_rfl) Sub.rfl
        · have h18 := cond_f b16 h15
          refine awp_skip ?_
          refine then_n ?_
          refine awp_seq ?_
          refine awp_reg [] [2] 0 ⟨81, [(2, .bool ((a0.fArea == 0) && (a0.fCost == 0)))], []⟩ [] [] (by kernel_rfl) nil_all trivial ?_
          refine then_n ?_
          refine awp_ret ?_
          obtain rfl := Option.some.inj h18
          exact ends_r (.bool ((a0.fArea == 0) && (a0.fCost == 0))) (by kernel_rfl) Sub.rfl

/- netverify/addr.clamp -/
noncomputable def M.addr_clamp (a0 : Int) : Option Int :=
  some (if (if 32 < a0 then 32 else a0) > 0 then (if 32 < a0 then 32 else a0) else 0)
theorem addr_clamp_ok (a0 : Int) (r : Int) (h : M.addr_clamp a0 = some r) : Fn Try.prog 98 [.int .i64 a0] (.pure (.int .i64 r)) := by
  unfold M.addr_clamp at h
  refine fn_pure Try.func98 rfl (by kernel_rfl) ?_
  refine awp_seq ?_
  refine awp_reg [] [0] 0 ⟨6, [(0, .int .i64 a0)], []⟩ [] [] (by kernel_rfl) nil_all trivial ?_
  refine then_n ?_
  refine awp_seq ?_
  refine awp_reg [] [2] 0 ⟨6, [(2, .int .i64 (if (if 32 < a0 then 32 else a0) > 0 then (if 32 < a0 then 32 else a0) else 0))], []⟩ [] [] (by kernel_rfl) nil_all trivial ?_
  refine then_n ?_
  refine awp_ret ?_
  obtain rfl := Option.some.inj h
  exact ends_r (.int .i64 (if (if 32 < a0 then 32 else a0) > 0 then (if 32 < a0 then 32 else a0) else 0)) (by kernel_rfl) Sub.rfl

/- netverify/addr.Mask -/
noncomputable def M.addr_Mask (a0 : Int) : Option Int :=
  (M.addr_clamp a0).bind fun r1 => gd [decide (0 ≤ (wr .i64 (32 - r1)))] (some (wr .u32 (4294967295 * 2 ^ min (wr .i64 (32 - r1)).toNat 32)))
theorem addr_Mask_ok (a0 : Int) (r : Int) (h : M.addr_Mask a0 = some r) : Fn Try.prog 97 [.int .i64 a0] (.pure (.int .u32 r)) := by
  unfold M.addr_Mask at h
  refine fn_pure Try.func97 rfl (by kernel_rfl) ?_
  refine awp_seq ?_
  refine awp_reg [] [0] 0 ⟨7, [(0, .int .i64 a0)], []⟩ [] [] (by kernel_rfl) nil_all trivial ?_
  refine then_n ?_
  refine awp_seq ?_
  obtain ⟨r1, q1, h2⟩ := bind_some h
  obtain ⟨c3, h4⟩ := gd_some h2
  refine awp_reg [.pure (.int .i64 r1)] [2] 0 ⟨7, [(2, .int .u32 (wr .u32 (4294967295 * 2 ^ min (wr .i64 (32 - r1)).toNat 32)))], []⟩ [decide (0 ≤ (wr .i64 (32 - r1)))] [⟨true, 98, [.int .i64 a0], .pure (.int .i64 r1)⟩] (by kernel_rfl) c3 ⟨fun _ => addr_clamp_ok a0 r1 q1, trivial⟩ ?_
  refine then_n ?_
  refine awp_ret ?_
  obtain rfl := Option.some.inj h4
  exact ends_r (.int .u32 (wr .u32 (4294967295 * 2 ^ min (wr .i64 (32 - r1)).toNat 32))) (by kernel_rfl) Sub.rfl

/- netverify/addr.Network -/
noncomputable def M.addr_Network (a0 : Int) (a1 : Int) : Option TPrefix :=
  (M.addr_Mask a1).bind fun r1 => (M.addr_clamp a1).bind fun r2 => some (⟨bitD .and .u32 a0 r1, r2⟩ : TPrefix)
theorem addr_Network_ok (a0 : Int) (a1 : Int) (r : TPrefix) (h : M.addr_Network a0 a1 = some r) : Fn Try.prog 86 [.int .u32 a0, .int .i64 a1] (.pure (.agg (c_TPrefix r))) := by
  unfold M.addr_Network at h
  refine fn_pure Try.func86 rfl (by kernel_rfl) ?_
  refine awp_seq ?_
  refine awp_reg [] [0, 1, 4] 1 ⟨12, [(0, .int .u32 a0), (1, .int .i64 a1), (4, .ref 0 0)], [.box [.int .u32 0, .int .i64 0]]⟩ [] [] (by kernel_rfl) nil_all trivial ?_
  refine then_n ?_
  refine awp_seq ?_
  obtain ⟨r1, q1, h2⟩ := bind_some h
  obtain ⟨r2, q3, h4⟩ := bind_some h2
  refine awp_reg [.pure (.int .u32 r1), .pure (.int .i64 r2)] [4] 1 ⟨12, [(4, .ref 0 0)], [.box [.int .u32 (bitD .and .u32 a0 r1), .int .i64 r2]]⟩ [] [⟨true, 97, [.int .i64 a1], .pure (.int .u32 r1)⟩, ⟨true, 98, [.int .i64 a1], .pure (.int .i64 r2)⟩] (by kernel_rfl) nil_all ⟨fun _ => addr_Mask_ok a1 r1 q1, fun _ => addr_clamp_ok a1 r2 q3, trivial⟩ ?_
  refine then_n ?_
  refine awp_ret ?_
  obtain rfl := Option.some.inj h4
  exact ends_r (.agg [.int .u32 (bitD .and .u32 a0 r1), .int .i64 r2]) (by kernel_rfl) Sub.rfl

/- netverify/addr.Contains -/
noncomputable def M.addr_Contains (a0 : TPrefix) (a1 : Int) : Option Bool :=
  (M.addr_Mask a0.fLen).bind fun r1 => some ((bitD .and .u32 a1 r1) == a0.fAddr)
theorem addr_Contains_ok (a0 : TPrefix) (a1 : Int) (r : Bool) (h : M.addr_Contains a0 a1 = some r) : Fn Try.prog 101 [.agg (c_TPrefix a0), .int .u32 a1] (.pure (.bool r)) := by
  unfold M.addr_Contains at h
  refine fn_pure Try.func101 rfl (by kernel_rfl) ?_
  refine awp_seq ?_
  refine awp_reg [] [1, 2] 1 ⟨13, [(1, .int .u32 a1), (2, .ref 0 0)], [.box (c_TPrefix a0)]⟩ [] [] (by kernel_rfl) nil_all trivial ?_
  refine then_n ?_
  refine awp_seq ?_
  obtain ⟨r1, q1, h2⟩ := bind_some h
  refine awp_reg [.pure (.int .u32 r1)] [4] 0 ⟨13, [(4, .bool ((bitD .and .u32 a1 r1) == a0.fAddr))], []⟩ [] [⟨true, 97, [.int .i64 a0.fLen], .pure (.int .u32 r1)⟩] (by kernel_rfl) nil_all ⟨fun _ => addr_Mask_ok a0.fLen r1 q1, trivial⟩ ?_
  refine then_n ?_
  refine awp_ret ?_
  obtain rfl := Option.some.inj h2
  exact ends_r (.bool ((bitD .and .u32 a1 r1) == a0.fAddr)) (by kernel_rfl) Sub.rfl

/- netverify/addr.Covers -/
noncomputable def M.addr_Covers (a0 : TPrefix) (a1 : TPrefix) : Option Bool :=
  (gc (decide (a0.fLen ≤ a1.fLen)) (M.addr_Contains a0 a1.fAddr)).bind fun r1 => some ((decide (a0.fLen ≤ a1.fLen)) && r1)
theorem addr_Covers_ok (a0 : TPrefix) (a1 : TPrefix) (r : Bool) (h : M.addr_Covers a0 a1 = some r) : Fn Try.prog 96 [.agg (c_TPrefix a0), .agg (c_TPrefix a1)] (.pure (.bool r)) := by
  unfold M.addr_Covers at h
  refine fn_pure Try.func96 rfl (by kernel_rfl) ?_
  refine awp_seq ?_
  refine awp_reg [] [2, 3] 2 ⟨16, [(2, .ref 0 0), (3, .ref 1 0)], [.box (c_TPrefix a0), .box (c_TPrefix a1)]⟩ [] [] (by kernel_rfl) nil_all trivial ?_
  refine then_n ?_
  refine awp_seq ?_
  obtain ⟨r1, q1, h2⟩ := bind_some h
  refine awp_reg [.pure (.bool r1)] [4] 0 ⟨16, [(4, .bool ((decide (a0.fLen ≤ a1.fLen)) && r1))], []⟩ [] [⟨decide (a0.fLen ≤ a1.fLen), 101, [.agg (c_TPrefix a0), .int .u32 a1.fAddr], .pure (.bool r1)⟩] (by kernel_rfl) nil_all ⟨fun hg => addr_Contains_ok a0 a1.fAddr r1 (gc_some q1 hg), trivial⟩ ?_
  refine then_n ?_
  refine awp_ret ?_
  obtain rfl := Option.some.inj h2
  exact ends_r (.bool ((decide (a0.fLen ≤ a1.fLen)) && r1)) (by kernel_rfl) Sub.rfl

/- netverify/addr.Overlaps -/
noncomputable def M.addr_Overlaps (a0 : TPrefix) (a1 : TPrefix) : Option Bool :=
  (M.addr_Covers a0 a1).bind fun r1 => (gc (!r1) (M.addr_Covers a1 a0)).bind fun r2 => some (r1 || r2)
theorem addr_Overlaps_ok (a0 : TPrefix) (a1 : TPrefix) (r : Bool) (h : M.addr_Overlaps a0 a1 = some r) : Fn Try.prog 85 [.agg (c_TPrefix a0), .agg (c_TPrefix a1)] (.pure (.bool r)) := by
  unfold M.addr_Overlaps at h
  refine fn_pure Try.func85 rfl (by kernel_rfl) ?_
  refine awp_seq ?_
  refine awp_reg [] [2, 3] 2 ⟨13, [(2, .ref 0 0), (3, .ref 1 0)], [.box (c_TPrefix a0), .box (c_TPrefix a1)]⟩ [] [] (by kernel_rfl) nil_all trivial ?_
  refine then_n ?_
  refine awp_seq ?_
  obtain ⟨r1, q1, h2⟩ := bind_some h
  obtain ⟨r2, q3, h4⟩ := bind_some h2
  refine awp_reg [.pure (.bool r1), .pure (.bool r2)] [4] 0 ⟨13, [(4, .bool (r1 || r2))], []⟩ [] [⟨true, 96, [.agg (c_TPrefix a0), .agg (c_TPrefix a1)], .pure (.bool r1)⟩, ⟨(!r1), 96, [.agg (c_TPrefix a1), .agg (c_TPrefix a0)], .pure (.bool r2)⟩] (by kernel_rfl) nil_all ⟨fun _ => addr_Covers_ok a0 a1 r1 q1, fun hg => addr_Covers_ok a1 a0 r2 (gc_some q3 hg), trivial⟩ ?_
  refine then_n ?_
  refine awp_ret ?_
  obtain rfl := Option.some.inj h4
  exact ends_r (.bool (r1 || r2)) (by kernel_rfl) Sub.rfl

/- netverify/model.checkInterfaces -/
noncomputable def M.model_checkInterfaces_l2 (a0 : TRouter) (p1 : Int) (p6 : Int) : Option (Int ⊕ (Unit ⊕ Int)) :=
  bif decide (p6 < (p1.toNat - 0 : Int)) then (gd [decide (0 ≤ p6), decide (p6 < (((a0.fInterfaces.drop 0).take (p1.toNat - 0)).length : Int))] ((gc ((((a0.fInterfaces.getD p1.toNat default).fLen) != 0) && (((((a0.fInterfaces.drop 0).take (p1.toNat - 0)).getD p6.toNat default).fLen) != 0)) (M.addr_Network ((a0.fInterfaces.getD p1.toNat default).fAddr) ((a0.fInterfaces.getD p1.toNat default).fLen))).bind fun r8 => (gc ((((a0.fInterfaces.getD p1.toNat default).fLen) != 0) && (((((a0.fInterfaces.drop 0).take (p1.toNat - 0)).getD p6.toNat default).fLen) != 0)) (M.addr_Network ((((a0.fInterfaces.drop 0).take (p1.toNat - 0)).getD p6.toNat default).fAddr) ((((a0.fInterfaces.drop 0).take (p1.toNat - 0)).getD p6.toNat default).fLen))).bind fun r9 => (gc ((((a0.fInterfaces.getD p1.toNat default).fLen) != 0) && (((((a0.fInterfaces.drop 0).take (p1.toNat - 0)).getD p6.toNat default).fLen) != 0)) (M.addr_Overlaps r8 r9)).bind fun r10 => bif ((((a0.fInterfaces.getD p1.toNat default).fLen) != 0) && (((((a0.fInterfaces.drop 0).take (p1.toNat - 0)).getD p6.toNat default).fLen) != 0)) && r10 then (some (.inr (.inr 6))) else (some (.inl (wr .i64 (p6 + 1)))))) else (some (.inr (.inl ())))
noncomputable def M.model_checkInterfaces_l1 (a0 : TRouter) (p1 : Int) : Option (Int ⊕ (Unit ⊕ Int)) :=
  bif decide (p1 < (a0.fInterfaces.length : Int)) then (gd [decide (0 ≤ p1), decide (p1 < (a0.fInterfaces.length : Int))] ((M.scan_Name ((a0.fInterfaces.getD p1.toNat default).fName)).bind fun r3 => bif !r3 then (some (.inr (.inr 3))) else ((M.model_Interface a0 ((a0.fInterfaces.getD p1.toNat default).fName)).bind fun r4 => bif decide (r4 < p1) then (some (.inr (.inr 4))) else ((M.model_rightInterface (a0.fInterfaces.getD p1.toNat default)).bind fun r5 => bif !r5 then (some (.inr (.inr 1))) else (gd [decide (0 ≤ p1), decide (p1 ≤ (a0.fInterfaces.length : Int))] ((loopM (M.model_checkInterfaces_l2 a0 p1) 0).bind fun y11 => Sum.elim (fun g12 => some (.inl (wr .i64 (p1 + 1)))) (fun y13 => some (.inr (.inr y13))) y11)))))) else (some (.inr (.inl ())))
noncomputable def M.model_checkInterfaces (a0 : TRouter) : Option Int :=
  bif decide ((a0.fInterfaces.length : Int) > 8) then (some 7) else ((loopM (M.model_checkInterfaces_l1 a0) 0).bind fun y14 => Sum.elim (fun g15 => some 0) (fun y16 => some y16) y14)
theorem model_checkInterfaces_ok (a0 : TRouter) (r : Int) (h : M.model_checkInterfaces a0 = some r) : Fn Try.prog 62 [.agg (c_TRouter a0)] (.pure (.int .i64 r)) := by
  unfold M.model_checkInterfaces at h
  refine fn_pure Try.func62 rfl (by kernel_rfl) ?_
  refine awp_seq ?_
  refine awp_reg [] [1] 1 ⟨64, [(1, .ref 0 0)], [.box (c_TRouter a0)]⟩ [] [] (by kernel_rfl) nil_all trivial ?_
  refine then_n ?_
  refine awp_seq ?_
  refine awp_seq ?_
  refine awp_reg [] [1, 10] 1 ⟨64, [(1, .ref 0 0), (10, .bool (decide ((a0.fInterfaces.length : Int) > 8)))], [.box (c_TRouter a0)]⟩ [] [] (by kernel_rfl) nil_all trivial ?_
  refine then_n ?_
  refine awp_cond (b := decide ((a0.fInterfaces.length : Int) > 8)) (by kernel_rfl) (fun b1 => ?_) (fun b1 => ?_)
  · have h2 := cond_t b1 h
    refine awp_seq ?_
    refine awp_reg [] [2] 0 ⟨64, [(2, .int .i64 7)], []⟩ [] [] (by kernel_rfl) nil_all trivial ?_
    refine then_n ?_
    refine awp_ret ?_
    refine then_r ?_
    obtain rfl := Option.some.inj h2
    exact ends_r (.int .i64 7) (by kernel_rfl) Sub.rfl
  · have h3 := cond_f b1 h
    refine awp_skip ?_
    refine then_n ?_
    refine awp_seq ?_
    refine awp_seq ?_
    refine awp_reg [] [1, 12, 13, 14] 1 ⟨64, [(1, .ref 0 0), (12, sL 12 c_TInterface a0.fInterfaces), (13, .int .i64 (a0.fInterfaces.length : Int)), (14, .int .i64 0)], [.box (c_TRouter a0)]⟩ [] [] (by kernel_rfl) nil_all trivial ?_
    refine then_n ?_
    refine awp_block ?_
    obtain ⟨y14, q51, h52⟩ := bind_some h3
    refine awp_le (s' := ⟨64, [(1, .ref 0 0), (12, sL 12 c_TInterface a0.fInterfaces), (13, .int .i64 (a0.fInterfaces.length : Int)), (14, .int .i64 0)], [.box (c_TRouter a0)]⟩) (le_rfl) ?_
    refine awp_mono (awp_loop (f := M.model_checkInterfaces_l1 a0) (S := fun (p1 : Int) => ⟨64, [(1, .ref 0 0), (12, sL 12 c_TInterface a0.fInterfaces), (13, .int .i64 (a0.fInterfaces.length : Int)), (14, .int .i64 p1)], [.box (c_TRouter a0)]⟩) (O := (Sum.elim (fun z => OutE 0 (fun z => ⟨64, [], []⟩) z) (fun z => OutR Try.prog Try.f62 (.int .i64 z)))) ?_ (x := 0) (y := y14) (loopM_iter q51)) ?_
    · intro p1 y2 h4
      unfold M.model_checkInterfaces_l1 at h4
      refine awp_seq ?_
      refine awp_reg [] [1, 12, 13, 14, 15] 1 ⟨64, [(1, .ref 0 0), (12, sL 12 c_TInterface a0.fInterfaces), (13, .int .i64 (a0.fInterfaces.length : Int)), (14, .int .i64 p1), (15, .bool (decide (p1 < (a0.fInterfaces.length : Int))))], [.box (c_TRouter a0)]⟩ [] [] (by kernel_rfl) nil_all trivial ?_
      refine then_n ?_
      refine awp_seq ?_
      refine awp_cond (b := decide (p1 < (a0.fInterfaces.length : Int))) (by kernel_rfl) (fun b5 => ?_) (fun b5 => ?_)
      · have h6 := cond_t b5 h4
        refine awp_skip ?_
        refine then_n ?_
        refine awp_seq ?_
        refine awp_block ?_
        refine awp_seq ?_
        obtain ⟨c8, h9⟩ := gd_some h6
        refine awp_reg [] [1, 3, 4, 12, 13, 14] 2 ⟨64, [(1, .ref 0 0), (3, .int .i64 p1), (4, .ref 1 0), (12, sL 12 c_TInterface a0.fInterfaces), (13, .int .i64 (a0.fInterfaces.length : Int)), (14, .int .i64 p1)], [.box (c_TRouter a0), .box (c_TInterface (a0.fInterfaces.getD p1.toNat default))]⟩ [decide (0 ≤ p1), decide (p1 < (a0.fInterfaces.length : Int))] [] (by kernel_rfl) c8 trivial ?_
        refine then_n ?_
        refine awp_seq ?_
        refine awp_seq ?_
        obtain ⟨r3, q10, h11⟩ := bind_some h9
        refine awp_reg [.pure (.bool r3)] [1, 3, 4, 12, 13, 14, 22] 2 ⟨64, [(1, .ref 0 0), (3, .int .i64 p1), (4, .ref 1 0), (12, sL 12 c_TInterface a0.fInterfaces), (13, .int .i64 (a0.fInterfaces.length : Int)), (14, .int .i64 p1), (22, .bool (!r3))], [.box (c_TRouter a0), .box (c_TInterface (a0.fInterfaces.getD p1.toNat default))]⟩ [] [⟨true, 60, [.str ((a0.fInterfaces.getD p1.toNat default).fName)], .pure (.bool r3)⟩] (by kernel_rfl) nil_all ⟨fun _ => scan_Name_ok ((a0.fInterfaces.getD p1.toNat default).fName) r3 q10, trivial⟩ ?_
        refine then_n ?_
        refine awp_cond (b := !r3) (by kernel_rfl) (fun b12 => ?_) (fun b12 => ?_)
        · have h13 := cond_t b12 h11
          refine awp_seq ?_
          refine awp_reg [] [2] 0 ⟨64, [(2, .int .i64 3)], []⟩ [] [] (by kernel_rfl) nil_all trivial ?_
          refine then_n ?_
          refine awp_ret ?_
          refine then_r ?_
          refine inb_r ?_
          refine then_r ?_
          obtain rfl := Option.some.inj h13
          exact round_r ⟨rfl, ends_r (.int .i64 3) (by kernel_rfl) Sub.rfl⟩
        · have h14 := cond_f b12 h11
          refine awp_skip ?_
          refine then_n ?_
          refine awp_seq ?_
          refine awp_seq ?_
          obtain ⟨r4, q15, h16⟩ := bind_some h14
          refine awp_reg [.pure (.int .i64 r4)] [1, 3, 4, 12, 13, 14, 28] 2 ⟨64, [(1, .ref 0 0), (3, .int .i64 p1), (4, .ref 1 0), (12, sL 12 c_TInterface a0.fInterfaces), (13, .int .i64 (a0.fInterfaces.length : Int)), (14, .int .i64 p1), (28, .bool (decide (r4 < p1)))], [.box (c_TRouter a0), .box (c_TInterface (a0.fInterfaces.getD p1.toNat default))]⟩ [] [⟨true, 15, [.agg (c_TRouter a0), .str ((a0.fInterfaces.getD p1.toNat default).fName)], .pure (.int .i64 r4)⟩] (by kernel_rfl) nil_all ⟨fun _ => model_Interface_ok a0 ((a0.fInterfaces.getD p1.toNat default).fName) r4 q15, trivial⟩ ?_
          refine then_n ?_
          refine awp_cond (b := decide (r4 < p1)) (by kernel_rfl) (fun b17 => ?_) (fun b17 => ?_)
          · have h18 := cond_t b17 h16
            refine awp_seq ?_
            refine awp_reg [] [2] 0 ⟨64, [(2, .int .i64 4)], []⟩ [] [] (by kernel_rfl) nil_all trivial ?_
            refine then_n ?_
            refine awp_ret ?_
            refine then_r ?_
            refine inb_r ?_
            refine then_r ?_
            obtain rfl := Option.some.inj h18
            exact round_r ⟨rfl, ends_r (.int .i64 4) (by kernel_rfl) Sub.rfl⟩
          · have h19 := cond_f b17 h16
            refine awp_skip ?_
            refine then_n ?_
            refine awp_seq ?_
            refine awp_seq ?_
            obtain ⟨r5, q20, h21⟩ := bind_some h19
            refine awp_reg [.pure (.bool r5)] [1, 3, 4, 12, 13, 14, 31] 2 ⟨64, [(1, .ref 0 0), (3, .int .i64 p1), (4, .ref 1 0), (12, sL 12 c_TInterface a0.fInterfaces), (13, .int .i64 (a0.fInterfaces.length : Int)), (14, .int .i64 p1), (31, .bool (!r5))], [.box (c_TRouter a0), .box (c_TInterface (a0.fInterfaces.getD p1.toNat default))]⟩ [] [⟨true, 84, [.agg (c_TInterface (a0.fInterfaces.getD p1.toNat default))], .pure (.bool r5)⟩] (by kernel_rfl) nil_all ⟨fun _ => model_rightInterface_ok (a0.fInterfaces.getD p1.toNat default) r5 q20, trivial⟩ ?_
            refine then_n ?_
            refine awp_cond (b := !r5) (by kernel_rfl) (fun b22 => ?_) (fun b22 => ?_)
            · have h23 := cond_t b22 h21
              refine awp_seq ?_
              refine awp_reg [] [2] 0 ⟨64, [(2, .int .i64 1)], []⟩ [] [] (by kernel_rfl) nil_all trivial ?_
              refine then_n ?_
              refine awp_ret ?_
              refine then_r ?_
              refine inb_r ?_
              refine then_r ?_
              obtain rfl := Option.some.inj h23
              exact round_r ⟨rfl, ends_r (.int .i64 1) (by kernel_rfl) Sub.rfl⟩
            · have h24 := cond_f b22 h21
              refine awp_skip ?_
              refine then_n ?_
              refine awp_seq ?_
              obtain ⟨c25, h26⟩ := gd_some h24
              refine awp_reg [] [1, 4, 12, 13, 14, 35, 36, 37] 2 ⟨64, [(1, .ref 0 0), (4, .ref 1 0), (12, sL 12 c_TInterface a0.fInterfaces), (13, .int .i64 (a0.fInterfaces.length : Int)), (14, .int .i64 p1), (35, .sl false 12 (p1.toNat - 0) (fun i => c_TInterface (a0.fInterfaces.getD (0 + i) default))), (36, .int .i64 (p1.toNat - 0 : Int)), (37, .int .i64 0)], [.box (c_TRouter a0), .box (c_TInterface (a0.fInterfaces.getD p1.toNat default))]⟩ [decide (0 ≤ p1), decide (p1 ≤ (a0.fInterfaces.length : Int))] [] (by kernel_rfl) c25 trivial ?_
              refine then_le (s' := ⟨64, [(1, .ref 0 0), (4, .ref 1 0), (12, sL 12 c_TInterface a0.fInterfaces), (13, .int .i64 (a0.fInterfaces.length : Int)), (14, .int .i64 p1), (35, sL 12 c_TInterface ((a0.fInterfaces.drop 0).take (p1.toNat - 0))), (36, .int .i64 (p1.toNat - 0 : Int)), (37, .int .i64 0)], [.box (c_TRouter a0), .box (c_TInterface (a0.fInterfaces.getD p1.toNat default))]⟩) (le_sub (.cons Sub.rfl (.cons Sub.rfl (.cons Sub.rfl (.cons Sub.rfl (.cons Sub.rfl (.cons (sub_sl (len_cut _ _ _ (cut_hi (c25 _ (List.mem_cons_of_mem _ List.mem_cons_self)))) (cut_ext _ _ _ _)) (.cons Sub.rfl (.cons Sub.rfl .nil)))))))) (.cons .rfl (.cons .rfl .nil))) ?_
              refine awp_block ?_
              obtain ⟨y11, q42, h43⟩ := bind_some h26
              refine awp_le (s' := ⟨64, [(1, .ref 0 0), (4, .ref 1 0), (12, sL 12 c_TInterface a0.fInterfaces), (13, .int .i64 (a0.fInterfaces.length : Int)), (14, .int .i64 p1), (35, sL 12 c_TInterface ((a0.fInterfaces.drop 0).take (p1.toNat - 0))), (36, .int .i64 (p1.toNat - 0 : Int)), (37, .int .i64 0)], [.box (c_TRouter a0), .box (c_TInterface (a0.fInterfaces.getD p1.toNat default))]⟩) (le_rfl) ?_
              refine awp_mono (awp_loop (f := M.model_checkInterfaces_l2 a0 p1) (S := fun (p6 : Int) => ⟨64, [(1, .ref 0 0), (4, .ref 1 0), (12, sL 12 c_TInterface a0.fInterfaces), (13, .int .i64 (a0.fInterfaces.length : Int)), (14, .int .i64 p1), (35, sL 12 c_TInterface ((a0.fInterfaces.drop 0).take (p1.toNat - 0))), (36, .int .i64 (p1.toNat - 0 : Int)), (37, .int .i64 p6)], [.box (c_TRouter a0), .box (c_TInterface (a0.fInterfaces.getD p1.toNat default))]⟩) (O := (Sum.elim (fun z => OutE 2 (fun z => ⟨64, [(1, .ref 0 0), (12, sL 12 c_TInterface a0.fInterfaces), (13, .int .i64 (a0.fInterfaces.length : Int)), (14, .int .i64 p1)], [.box (c_TRouter a0)]⟩) z) (fun z => OutR Try.prog Try.f62 (.int .i64 z)))) ?_ (x := 0) (y := y11) (loopM_iter q42)) ?_
              · intro p6 y7 h27
                unfold M.model_checkInterfaces_l2 at h27
                refine awp_seq ?_
                refine awp_reg [] [1, 4, 12, 13, 14, 35, 36, 37, 38] 2 ⟨64, [(1, .ref 0 0), (4, .ref 1 0), (12, sL 12 c_TInterface a0.fInterfaces), (13, .int .i64 (a0.fInterfaces.length : Int)), (14, .int .i64 p1), (35, sL 12 c_TInterface ((a0.fInterfaces.drop 0).take (p1.toNat - 0))), (36, .int .i64 (p1.toNat - 0 : Int)), (37, .int .i64 p6), (38, .bool (decide (p6 < (p1.toNat - 0 : Int))))], [.box (c_TRouter a0), .box (c_TInterface (a0.fInterfaces.getD p1.toNat default))]⟩ [] [] (by kernel_rfl) nil_all trivial ?_
                refine then_n ?_
                refine awp_seq ?_
                refine awp_cond (b := decide (p6 < (p1.toNat - 0 : Int))) (by kernel_rfl) (fun b28 => ?_) (fun b28 => ?_)
                · have h29 := cond_t b28 h27
                  refine awp_skip ?_
                  refine then_n ?_
                  refine awp_seq ?_
                  refine awp_block ?_
                  refine awp_seq ?_
                  obtain ⟨c31, h32⟩ := gd_some h29
                  refine awp_reg [] [1, 4, 6, 12, 13, 14, 35, 36, 37] 3 ⟨64, [(1, .ref 0 0), (4, .ref 1 0), (6, .ref 2 0), (12, sL 12 c_TInterface a0.fInterfaces), (13, .int .i64 (a0.fInterfaces.length : Int)), (14, .int .i64 p1), (35, sL 12 c_TInterface ((a0.fInterfaces.drop 0).take (p1.toNat - 0))), (36, .int .i64 (p1.toNat - 0 : Int)), (37, .int .i64 p6)], [.box (c_TRouter a0), .box (c_TInterface (a0.fInterfaces.getD p1.toNat default)), .box (c_TInterface (((a0.fInterfaces.drop 0).take (p1.toNat - 0)).getD p6.toNat default))]⟩ [decide (0 ≤ p6), decide (p6 < (((a0.fInterfaces.drop 0).take (p1.toNat - 0)).length : Int))] [] (by kernel_rfl) c31 trivial ?_
                  refine then_n ?_
                  refine awp_seq ?_
                  obtain ⟨r8, q33, h34⟩ := bind_some h32
                  obtain ⟨r9, q35, h36⟩ := bind_some h34
                  obtain ⟨r10, q37, h38⟩ := bind_some h36
                  refine awp_reg [.pure (.agg (c_TPrefix r8)), .pure (.agg (c_TPrefix r9)), .pure (.bool r10)] [1, 4, 12, 13, 14, 35, 36, 37, 61] 2 ⟨64, [(1, .ref 0 0), (4, .ref 1 0), (12, sL 12 c_TInterface a0.fInterfaces), (13, .int .i64 (a0.fInterfaces.length : Int)), (14, .int .i64 p1), (35, sL 12 c_TInterface ((a0.fInterfaces.drop 0).take (p1.toNat - 0))), (36, .int .i64 (p1.toNat - 0 : Int)), (37, .int .i64 p6), (61, .bool (((((a0.fInterfaces.getD p1.toNat default).fLen) != 0) && (((((a0.fInterfaces.drop 0).take (p1.toNat - 0)).getD p6.toNat default).fLen) != 0)) && r10))], [.box (c_TRouter a0), .box (c_TInterface (a0.fInterfaces.getD p1.toNat default))]⟩ [] [⟨(((a0.fInterfaces.getD p1.toNat default).fLen) != 0) && (((((a0.fInterfaces.drop 0).take (p1.toNat - 0)).getD p6.toNat default).fLen) != 0), 86, [.int .u32 ((a0.fInterfaces.getD p1.toNat default).fAddr), .int .i64 ((a0.fInterfaces.getD p1.toNat default).fLen)], .pure (.agg (c_TPrefix r8))⟩, ⟨(((a0.fInterfaces.getD p1.toNat default).fLen) != 0) && (((((a0.fInterfaces.drop 0).take (p1.toNat - 0)).getD p6.toNat default).fLen) != 0), 86, [.int .u32 ((((a0.fInterfaces.drop 0).take (p1.toNat - 0)).getD p6.toNat default).fAddr), .int .i64 ((((a0.fInterfaces.drop 0).take (p1.toNat - 0)).getD p6.toNat default).fLen)], .pure (.agg (c_TPrefix r9))⟩, ⟨(((a0.fInterfaces.getD p1.toNat default).fLen) != 0) && (((((a0.fInterfaces.drop 0).take (p1.toNat - 0)).getD p6.toNat default).fLen) != 0), 85, [.agg (c_TPrefix r8), .agg (c_TPrefix r9)], .pure (.bool r10)⟩] (by kernel_rfl) nil_all ⟨fun hg => addr_Network_ok ((a0.fInterfaces.getD p1.toNat default).fAddr) ((a0.fInterfaces.getD p1.toNat default).fLen) r8 (gc_some q33 hg), fun hg => addr_Network_ok ((((a0.fInterfaces.drop 0).take (p1.toNat - 0)).getD p6.toNat default).fAddr) ((((a0.fInterfaces.drop 0).take (p1.toNat - 0)).getD p6.toNat default).fLen) r9 (gc_some q35 hg), fun hg => addr_Overlaps_ok r8 r9 r10 (gc_some q37 hg), trivial⟩ ?_
                  refine then_n ?_
                  refine awp_cond (b := ((((a0.fInterfaces.getD p1.toNat default).fLen) != 0) && (((((a0.fInterfaces.drop 0).take (p1.toNat - 0)).getD p6.toNat default).fLen) != 0)) && r10) (by kernel_rfl) (fun b39 => ?_) (fun b39 => ?_)
                  · have h40 := cond_t b39 h38
                    refine awp_seq ?_
                    refine awp_reg [] [2] 0 ⟨64, [(2, .int .i64 6)], []⟩ [] [] (by kernel_rfl) nil_all trivial ?_
                    refine then_n ?_
                    refine awp_ret ?_
                    refine inb_r ?_
                    refine then_r ?_
                    obtain rfl := Option.some.inj h40
                    exact round_r ⟨rfl, ends_r (.int .i64 6) (by kernel_rfl) Sub.rfl⟩
                  · have h41 := cond_f b39 h38
                    refine awp_skip ?_
                    refine inb_n ?_
                    refine then_n ?_
                    refine awp_reg [] [1, 4, 12, 13, 14, 35, 36, 37] 2 ⟨64, [(1, .ref 0 0), (4, .ref 1 0), (12, sL 12 c_TInterface a0.fInterfaces), (13, .int .i64 (a0.fInterfaces.length : Int)), (14, .int .i64 p1), (35, sL 12 c_TInterface ((a0.fInterfaces.drop 0).take (p1.toNat - 0))), (36, .int .i64 (p1.toNat - 0 : Int)), (37, .int .i64 (wr .i64 (p6 + 1)))], [.box (c_TRouter a0), .box (c_TInterface (a0.fInterfaces.getD p1.toNat default))]⟩ [] [] (by kernel_rfl) nil_all trivial ?_
                    obtain rfl := Option.some.inj h41
                    exact round_n (le_rfl)
                · have h30 := cond_f b28 h27
                  refine awp_exit ?_
                  refine then_e ?_
                  obtain rfl := Option.some.inj h30
                  exact round_e ⟨rfl, Le.trans (s' := ⟨64, [(1, .ref 0 0), (12, sL 12 c_TInterface a0.fInterfaces), (13, .int .i64 (a0.fInterfaces.length : Int)), (14, .int .i64 p1)], [.box (c_TRouter a0), .box (c_TInterface (a0.fInterfaces.getD p1.toNat default))]⟩) (le_keep' [1, 12, 13, 14] (by kernel_rfl)) (le_cut (n := 1) (by kernel_rfl))⟩
              · intro e44 s45 o46
                rcases y11 with g12 | y13
                · have h47 := elim_l h43
                  obtain ⟨rfl, l49⟩ := o46
                  refine inb_here ?_
                  refine inb_n ?_
                  refine then_le (s' := ⟨64, [(1, .ref 0 0), (12, sL 12 c_TInterface a0.fInterfaces), (13, .int .i64 (a0.fInterfaces.length : Int)), (14, .int .i64 p1)], [.box (c_TRouter a0)]⟩) (l49) ?_
                  refine awp_reg [] [1, 12, 13, 14] 1 ⟨64, [(1, .ref 0 0), (12, sL 12 c_TInterface a0.fInterfaces), (13, .int .i64 (a0.fInterfaces.length : Int)), (14, .int .i64 (wr .i64 (p1 + 1)))], [.box (c_TRouter a0)]⟩ [] [] (by kernel_rfl) nil_all trivial ?_
                  obtain rfl := Option.some.inj h47
                  exact round_n (le_rfl)
                · have h48 := elim_r h43
                  obtain ⟨rfl, n50⟩ := o46
                  refine inb_r ?_
                  refine inb_r ?_
                  refine then_r ?_
                  obtain rfl := Option.some.inj h48
                  exact round_r ⟨rfl, n50⟩
      · have h7 := cond_f b5 h4
        refine awp_exit ?_
        refine then_e ?_
        obtain rfl := Option.some.inj h7
        exact round_e ⟨rfl, Le.trans (s' := ⟨64, [], [.box (c_TRouter a0)]⟩) (le_keep' [] (by kernel_rfl)) (le_cut (n := 0) (by kernel_rfl))⟩
    · intro e53 s54 o55
      rcases y14 with g15 | y16
      · have h56 := elim_l h52
        obtain ⟨rfl, l58⟩ := o55
        refine inb_here ?_
        refine then_le (s' := ⟨64, [], []⟩) (l58) ?_
        refine awp_seq ?_
        refine awp_reg [] [2] 0 ⟨64, [(2, .int .i64 0)], []⟩ [] [] (by kernel_rfl) nil_all trivial ?_
        refine then_n ?_
        refine awp_ret ?_
        obtain rfl := Option.some.inj h56
        exact ends_r (.int .i64 0) (by kernel_rfl) Sub.rfl
      · have h57 := elim_r h52
        obtain ⟨rfl, n59⟩ := o55
        refine inb_r ?_
        refine then_r ?_
        obtain rfl := Option.some.inj h57
        exact n59

/- netverify/model.checkList -/
noncomputable def M.model_checkList (a0 : Int) (a1 : Int) (a2 : ByteArray) (a3 : Int) (a4 : Int) : Option Int :=
  (M.scan_Name a2).bind fun r1 => bif !r1 then (some 3) else (bif decide (a1 < a0) then (some 4) else (bif a3 == 0 then (some 1) else (bif decide (a3 > a4) then (some 7) else (some 0))))
theorem model_checkList_ok (a0 : Int) (a1 : Int) (a2 : ByteArray) (a3 : Int) (a4 : Int) (r : Int) (h : M.model_checkList a0 a1 a2 a3 a4 = some r) : Fn Try.prog 87 [.int .i64 a0, .int .i64 a1, .str a2, .int .i64 a3, .int .i64 a4] (.pure (.int .i64 r)) := by
  unfold M.model_checkList at h
  refine fn_pure Try.func87 rfl (by kernel_rfl) ?_
  refine awp_seq ?_
  refine awp_reg [] [0, 1, 2, 3, 4] 0 ⟨26, [(0, .int .i64 a0), (1, .int .i64 a1), (2, .str a2), (3, .int .i64 a3), (4, .int .i64 a4)], []⟩ [] [] (by kernel_rfl) nil_all trivial ?_
  refine then_n ?_
  refine awp_seq ?_
  refine awp_block ?_
  refine awp_seq ?_
  obtain ⟨r1, q1, h2⟩ := bind_some h
  refine awp_reg [.pure (.bool r1)] [0, 1, 3, 4, 11] 0 ⟨26, [(0, .int .i64 a0), (1, .int .i64 a1), (3, .int .i64 a3), (4, .int .i64 a4), (11, .bool (!r1))], []⟩ [] [⟨true, 60, [.str a2], .pure (.bool r1)⟩] (by kernel_rfl) nil_all ⟨fun _ => scan_Name_ok a2 r1 q1, trivial⟩ ?_
  refine then_n ?_
  refine awp_cond (b := !r1) (by kernel_rfl) (fun b3 => ?_) (fun b3 => ?_)
  · have h4 := cond_t b3 h2
    refine awp_seq ?_
    refine awp_reg [] [10] 0 ⟨26, [(10, .int .i64 3)], []⟩ [] [] (by kernel_rfl) nil_all trivial ?_
    refine then_n ?_
    refine awp_ret ?_
    refine inb_r ?_
    refine then_r ?_
    obtain rfl := Option.some.inj h4
    exact ends_r (.int .i64 3) (by kernel_rfl) Sub.rfl
  · have h5 := cond_f b3 h2
    refine awp_seq ?_
    refine awp_reg [] [3, 4, 15] 0 ⟨26, [(3, .int .i64 a3), (4, .int .i64 a4), (15, .bool (decide (a1 < a0)))], []⟩ [] [] (by kernel_rfl) nil_all trivial ?_
    refine then_n ?_
    refine awp_cond (b := decide (a1 < a0)) (by kernel_rfl) (fun b6 => ?_) (fun b6 => ?_)
    · have h7 := cond_t b6 h5
      refine awp_seq ?_
      refine awp_reg [] [10] 0 ⟨26, [(10, .int .i64 4)], []⟩ [] [] (by kernel_rfl) nil_all trivial ?_
      refine then_n ?_
      refine awp_ret ?_
      refine inb_r ?_
      refine then_r ?_
      obtain rfl := Option.some.inj h7
      exact ends_r (.int .i64 4) (by kernel_rfl) Sub.rfl
    · have h8 := cond_f b6 h5
      refine awp_seq ?_
      refine awp_reg [] [3, 4, 19] 0 ⟨26, [(3, .int .i64 a3), (4, .int .i64 a4), (19, .bool (a3 == 0))], []⟩ [] [] (by kernel_rfl) nil_all trivial ?_
      refine then_n ?_
      refine awp_cond (b := a3 == 0) (by kernel_rfl) (fun b9 => ?_) (fun b9 => ?_)
      · have h10 := cond_t b9 h8
        refine awp_seq ?_
        refine awp_reg [] [10] 0 ⟨26, [(10, .int .i64 1)], []⟩ [] [] (by kernel_rfl) nil_all trivial ?_
        refine then_n ?_
        refine awp_ret ?_
        refine inb_r ?_
        refine then_r ?_
        obtain rfl := Option.some.inj h10
        exact ends_r (.int .i64 1) (by kernel_rfl) Sub.rfl
      · have h11 := cond_f b9 h8
        refine awp_seq ?_
        refine awp_reg [] [22] 0 ⟨26, [(22, .bool (decide (a3 > a4)))], []⟩ [] [] (by kernel_rfl) nil_all trivial ?_
        refine then_n ?_
        refine awp_cond (b := decide (a3 > a4)) (by kernel_rfl) (fun b12 => ?_) (fun b12 => ?_)
        · have h13 := cond_t b12 h11
          refine awp_seq ?_
          refine awp_reg [] [10] 0 ⟨26, [(10, .int .i64 7)], []⟩ [] [] (by kernel_rfl) nil_all trivial ?_
          refine then_n ?_
          refine awp_ret ?_
          refine inb_r ?_
          refine then_r ?_
          obtain rfl := Option.some.inj h13
          exact ends_r (.int .i64 7) (by kernel_rfl) Sub.rfl
        · have h14 := cond_f b12 h11
          refine awp_skip ?_
          refine inb_n ?_
          refine then_n ?_
          refine awp_seq ?_
          refine awp_reg [] [10] 0 ⟨26, [(10, .int .i64 0)], []⟩ [] [] (by kernel_rfl) nil_all trivial ?_
          refine then_n ?_
          refine awp_ret ?_
          obtain rfl := Option.some.inj h14
          exact ends_r (.int .i64 0) (by kernel_rfl) Sub.rfl

/- netverify/addr.Valid -/
noncomputable def M.addr_Valid (a0 : TPrefix) : Option Bool :=
  (gc ((decide (a0.fLen ≥ 0)) && (decide (a0.fLen ≤ 32))) (M.addr_Mask a0.fLen)).bind fun r1 => some (((decide (a0.fLen ≥ 0)) && (decide (a0.fLen ≤ 32))) && ((bitD .andNot .u32 a0.fAddr r1) == 0))
theorem addr_Valid_ok (a0 : TPrefix) (r : Bool) (h : M.addr_Valid a0 = some r) : Fn Try.prog 88 [.agg (c_TPrefix a0)] (.pure (.bool r)) := by
  unfold M.addr_Valid at h
  refine fn_pure Try.func88 rfl (by kernel_rfl) ?_
  refine awp_seq ?_
  refine awp_reg [] [1] 1 ⟨20, [(1, .ref 0 0)], [.box (c_TPrefix a0)]⟩ [] [] (by kernel_rfl) nil_all trivial ?_
  refine then_n ?_
  refine awp_seq ?_
  obtain ⟨r1, q1, h2⟩ := bind_some h
  refine awp_reg [.pure (.int .u32 r1)] [2] 0 ⟨20, [(2, .bool (((decide (a0.fLen ≥ 0)) && (decide (a0.fLen ≤ 32))) && ((bitD .andNot .u32 a0.fAddr r1) == 0)))], []⟩ [] [⟨(decide (a0.fLen ≥ 0)) && (decide (a0.fLen ≤ 32)), 97, [.int .i64 a0.fLen], .pure (.int .u32 r1)⟩] (by kernel_rfl) nil_all ⟨fun hg => addr_Mask_ok a0.fLen r1 (gc_some q1 hg), trivial⟩ ?_
  refine then_n ?_
  refine awp_ret ?_
  obtain rfl := Option.some.inj h2
  exact ends_r (.bool (((decide (a0.fLen ≥ 0)) && (decide (a0.fLen ≤ 32))) && ((bitD .andNot .u32 a0.fAddr r1) == 0))) (by kernel_rfl) Sub.rfl

/- netverify/model.checkPrefixLists -/
noncomputable def M.model_checkPrefixLists_l2 (a0 : TRouter) (p1 : Int) (p5 : Int) : Option (Int ⊕ (Unit ⊕ Int)) :=
  bif decide (p5 < (((a0.fLists.getD p1.toNat default).fRules).length : Int)) then (gd [decide (0 ≤ p5), decide (p5 < (((a0.fLists.getD p1.toNat default).fRules).length : Int))] ((M.addr_Valid ((((a0.fLists.getD p1.toNat default).fRules).getD p5.toNat default).fPrefix)).bind fun r7 => bif (((!r7) || (decide (((((a0.fLists.getD p1.toNat default).fRules).getD p5.toNat default).fMin) < (((((a0.fLists.getD p1.toNat default).fRules).getD p5.toNat default).fPrefix).fLen)))) || (decide (((((a0.fLists.getD p1.toNat default).fRules).getD p5.toNat default).fMax) < ((((a0.fLists.getD p1.toNat default).fRules).getD p5.toNat default).fMin)))) || (decide (((((a0.fLists.getD p1.toNat default).fRules).getD p5.toNat default).fMax) > 32)) then (some (.inr (.inr 1))) else (some (.inl (wr .i64 (p5 + 1)))))) else (some (.inr (.inl ())))
noncomputable def M.model_checkPrefixLists_l1 (a0 : TRouter) (p1 : Int) : Option (Int ⊕ (Unit ⊕ Int)) :=
  bif decide (p1 < (a0.fLists.length : Int)) then (gd [decide (0 ≤ p1), decide (p1 < (a0.fLists.length : Int))] ((M.model_PrefixList a0 ((a0.fLists.getD p1.toNat default).fName)).bind fun r3 => (M.model_checkList p1 r3 ((a0.fLists.getD p1.toNat default).fName) (((a0.fLists.getD p1.toNat default).fRules).length : Int) 16).bind fun r4 => bif r4 != 0 then (some (.inr (.inr r4))) else ((loopM (M.model_checkPrefixLists_l2 a0 p1) 0).bind fun y8 => Sum.elim (fun g9 => some (.inl (wr .i64 (p1 + 1)))) (fun y10 => some (.inr (.inr y10))) y8))) else (some (.inr (.inl ())))
noncomputable def M.model_checkPrefixLists (a0 : TRouter) : Option Int :=
  bif decide ((a0.fLists.length : Int) > 8) then (some 7) else ((loopM (M.model_checkPrefixLists_l1 a0) 0).bind fun y11 => Sum.elim (fun g12 => some 0) (fun y13 => some y13) y11)
theorem model_checkPrefixLists_ok (a0 : TRouter) (r : Int) (h : M.model_checkPrefixLists a0 = some r) : Fn Try.prog 63 [.agg (c_TRouter a0)] (.pure (.int .i64 r)) := by
  unfold M.model_checkPrefixLists at h
  refine fn_pure Try.func63 rfl (by kernel_rfl) ?_
  refine awp_seq ?_
  refine awp_reg [] [1] 1 ⟨67, [(1, .ref 0 0)], [.box (c_TRouter a0)]⟩ [] [] (by kernel_rfl) nil_all trivial ?_
  refine then_n ?_
  refine awp_seq ?_
  refine awp_seq ?_
  refine awp_reg [] [1, 11] 1 ⟨67, [(1, .ref 0 0), (11, .bool (decide ((a0.fLists.length : Int) > 8)))], [.box (c_TRouter a0)]⟩ [] [] (by kernel_rfl) nil_all trivial ?_
  refine then_n ?_
  refine awp_cond (b := decide ((a0.fLists.length : Int) > 8)) (by kernel_rfl) (fun b1 => ?_) (fun b1 => ?_)
  · have h2 := cond_t b1 h
    refine awp_seq ?_
    refine awp_reg [] [2] 0 ⟨67, [(2, .int .i64 7)], []⟩ [] [] (by kernel_rfl) nil_all trivial ?_
    refine then_n ?_
    refine awp_ret ?_
    refine then_r ?_
    obtain rfl := Option.some.inj h2
    exact ends_r (.int .i64 7) (by kernel_rfl) Sub.rfl
  · have h3 := cond_f b1 h
    refine awp_skip ?_
    refine then_n ?_
    refine awp_seq ?_
    refine awp_seq ?_
    refine awp_reg [] [1, 13, 14, 15] 1 ⟨67, [(1, .ref 0 0), (13, sL 2 c_TPrefixList a0.fLists), (14, .int .i64 (a0.fLists.length : Int)), (15, .int .i64 0)], [.box (c_TRouter a0)]⟩ [] [] (by kernel_rfl) nil_all trivial ?_
    refine then_n ?_
    refine awp_block ?_
    obtain ⟨y11, q37, h38⟩ := bind_some h3
    refine awp_le (s' := ⟨67, [(1, .ref 0 0), (13, sL 2 c_TPrefixList a0.fLists), (14, .int .i64 (a0.fLists.length : Int)), (15, .int .i64 0)], [.box (c_TRouter a0)]⟩) (le_rfl) ?_
    refine awp_mono (awp_loop (f := M.model_checkPrefixLists_l1 a0) (S := fun (p1 : Int) => ⟨67, [(1, .ref 0 0), (13, sL 2 c_TPrefixList a0.fLists), (14, .int .i64 (a0.fLists.length : Int)), (15, .int .i64 p1)], [.box (c_TRouter a0)]⟩) (O := (Sum.elim (fun z => OutE 0 (fun z => ⟨67, [], []⟩) z) (fun z => OutR Try.prog Try.f63 (.int .i64 z)))) ?_ (x := 0) (y := y11) (loopM_iter q37)) ?_
    · intro p1 y2 h4
      unfold M.model_checkPrefixLists_l1 at h4
      refine awp_seq ?_
      refine awp_reg [] [1, 13, 14, 15, 16] 1 ⟨67, [(1, .ref 0 0), (13, sL 2 c_TPrefixList a0.fLists), (14, .int .i64 (a0.fLists.length : Int)), (15, .int .i64 p1), (16, .bool (decide (p1 < (a0.fLists.length : Int))))], [.box (c_TRouter a0)]⟩ [] [] (by kernel_rfl) nil_all trivial ?_
      refine then_n ?_
      refine awp_seq ?_
      refine awp_cond (b := decide (p1 < (a0.fLists.length : Int))) (by kernel_rfl) (fun b5 => ?_) (fun b5 => ?_)
      · have h6 := cond_t b5 h4
        refine awp_skip ?_
        refine then_n ?_
        refine awp_seq ?_
        refine awp_block ?_
        refine awp_seq ?_
        obtain ⟨c8, h9⟩ := gd_some h6
        refine awp_reg [] [1, 3, 4, 13, 14, 15] 2 ⟨67, [(1, .ref 0 0), (3, .int .i64 p1), (4, .ref 1 0), (13, sL 2 c_TPrefixList a0.fLists), (14, .int .i64 (a0.fLists.length : Int)), (15, .int .i64 p1)], [.box (c_TRouter a0), .box (c_TPrefixList (a0.fLists.getD p1.toNat default))]⟩ [decide (0 ≤ p1), decide (p1 < (a0.fLists.length : Int))] [] (by kernel_rfl) c8 trivial ?_
        refine then_n ?_
        refine awp_seq ?_
        refine awp_seq ?_
        obtain ⟨r3, q10, h11⟩ := bind_some h9
        obtain ⟨r4, q12, h13⟩ := bind_some h11
        refine awp_reg [.pure (.int .i64 r3), .pure (.int .i64 r4)] [1, 4, 5, 13, 14, 15] 2 ⟨67, [(1, .ref 0 0), (4, .ref 1 0), (5, .int .i64 r4), (13, sL 2 c_TPrefixList a0.fLists), (14, .int .i64 (a0.fLists.length : Int)), (15, .int .i64 p1)], [.box (c_TRouter a0), .box (c_TPrefixList (a0.fLists.getD p1.toNat default))]⟩ [] [⟨true, 17, [.agg (c_TRouter a0), .str ((a0.fLists.getD p1.toNat default).fName)], .pure (.int .i64 r3)⟩, ⟨true, 87, [.int .i64 p1, .int .i64 r3, .str ((a0.fLists.getD p1.toNat default).fName), .int .i64 (((a0.fLists.getD p1.toNat default).fRules).length : Int), .int .i64 16], .pure (.int .i64 r4)⟩] (by kernel_rfl) nil_all ⟨fun _ => model_PrefixList_ok a0 ((a0.fLists.getD p1.toNat default).fName) r3 q10, fun _ => model_checkList_ok p1 r3 ((a0.fLists.getD p1.toNat default).fName) (((a0.fLists.getD p1.toNat default).fRules).length : Int) 16 r4 q12, trivial⟩ ?_
        refine then_n ?_
        refine awp_seq ?_
        refine awp_reg [] [1, 4, 5, 13, 14, 15, 32] 2 ⟨67, [(1, .ref 0 0), (4, .ref 1 0), (5, .int .i64 r4), (13, sL 2 c_TPrefixList a0.fLists), (14, .int .i64 (a0.fLists.length : Int)), (15, .int .i64 p1), (32, .bool (r4 != 0))], [.box (c_TRouter a0), .box (c_TPrefixList (a0.fLists.getD p1.toNat default))]⟩ [] [] (by kernel_rfl) nil_all trivial ?_
        refine then_n ?_
        refine awp_cond (b := r4 != 0) (by kernel_rfl) (fun b14 => ?_) (fun b14 => ?_)
        · have h15 := cond_t b14 h13
          refine awp_seq ?_
          refine awp_reg [] [2] 0 ⟨67, [(2, .int .i64 r4)], []⟩ [] [] (by kernel_rfl) nil_all trivial ?_
          refine then_n ?_
          refine awp_ret ?_
          refine then_r ?_
          refine inb_r ?_
          refine then_r ?_
          obtain rfl := Option.some.inj h15
          exact round_r ⟨rfl, ends_r (.int .i64 r4) (by kernel_rfl) Sub.rfl⟩
        · have h16 := cond_f b14 h13
          refine awp_skip ?_
          refine then_n ?_
          refine awp_seq ?_
          refine awp_reg [] [1, 13, 14, 15, 35, 36, 37] 1 ⟨67, [(1, .ref 0 0), (13, sL 2 c_TPrefixList a0.fLists), (14, .int .i64 (a0.fLists.length : Int)), (15, .int .i64 p1), (35, sL 5 c_TPrefixRule ((a0.fLists.getD p1.toNat default).fRules)), (36, .int .i64 (((a0.fLists.getD p1.toNat default).fRules).length : Int)), (37, .int .i64 0)], [.box (c_TRouter a0)]⟩ [] [] (by kernel_rfl) nil_all trivial ?_
          refine then_n ?_
          refine awp_block ?_
          obtain ⟨y8, q28, h29⟩ := bind_some h16
          refine awp_le (s' := ⟨67, [(1, .ref 0 0), (13, sL 2 c_TPrefixList a0.fLists), (14, .int .i64 (a0.fLists.length : Int)), (15, .int .i64 p1), (35, sL 5 c_TPrefixRule ((a0.fLists.getD p1.toNat default).fRules)), (36, .int .i64 (((a0.fLists.getD p1.toNat default).fRules).length : Int)), (37, .int .i64 0)], [.box (c_TRouter a0)]⟩) (le_rfl) ?_
          refine awp_mono (awp_loop (f := M.model_checkPrefixLists_l2 a0 p1) (S := fun (p5 : Int) => ⟨67, [(1, .ref 0 0), (13, sL 2 c_TPrefixList a0.fLists), (14, .int .i64 (a0.fLists.length : Int)), (15, .int .i64 p1), (35, sL 5 c_TPrefixRule ((a0.fLists.getD p1.toNat default).fRules)), (36, .int .i64 (((a0.fLists.getD p1.toNat default).fRules).length : Int)), (37, .int .i64 p5)], [.box (c_TRouter a0)]⟩) (O := (Sum.elim (fun z => OutE 2 (fun z => ⟨67, [(1, .ref 0 0), (13, sL 2 c_TPrefixList a0.fLists), (14, .int .i64 (a0.fLists.length : Int)), (15, .int .i64 p1)], [.box (c_TRouter a0)]⟩) z) (fun z => OutR Try.prog Try.f63 (.int .i64 z)))) ?_ (x := 0) (y := y8) (loopM_iter q28)) ?_
          · intro p5 y6 h17
            unfold M.model_checkPrefixLists_l2 at h17
            refine awp_seq ?_
            refine awp_reg [] [1, 13, 14, 15, 35, 36, 37, 38] 1 ⟨67, [(1, .ref 0 0), (13, sL 2 c_TPrefixList a0.fLists), (14, .int .i64 (a0.fLists.length : Int)), (15, .int .i64 p1), (35, sL 5 c_TPrefixRule ((a0.fLists.getD p1.toNat default).fRules)), (36, .int .i64 (((a0.fLists.getD p1.toNat default).fRules).length : Int)), (37, .int .i64 p5), (38, .bool (decide (p5 < (((a0.fLists.getD p1.toNat default).fRules).length : Int))))], [.box (c_TRouter a0)]⟩ [] [] (by kernel_rfl) nil_all trivial ?_
            refine then_n ?_
            refine awp_seq ?_
            refine awp_cond (b := decide (p5 < (((a0.fLists.getD p1.toNat default).fRules).length : Int))) (by kernel_rfl) (fun b18 => ?_) (fun b18 => ?_)
            · have h19 := cond_t b18 h17
              refine awp_skip ?_
              refine then_n ?_
              refine awp_seq ?_
              refine awp_block ?_
              refine awp_seq ?_
              obtain ⟨c21, h22⟩ := gd_some h19
              refine awp_reg [] [1, 7, 13, 14, 15, 35, 36, 37] 2 ⟨67, [(1, .ref 0 0), (7, .ref 1 0), (13, sL 2 c_TPrefixList a0.fLists), (14, .int .i64 (a0.fLists.length : Int)), (15, .int .i64 p1), (35, sL 5 c_TPrefixRule ((a0.fLists.getD p1.toNat default).fRules)), (36, .int .i64 (((a0.fLists.getD p1.toNat default).fRules).length : Int)), (37, .int .i64 p5)], [.box (c_TRouter a0), .box (c_TPrefixRule (((a0.fLists.getD p1.toNat default).fRules).getD p5.toNat default))]⟩ [decide (0 ≤ p5), decide (p5 < (((a0.fLists.getD p1.toNat default).fRules).length : Int))] [] (by kernel_rfl) c21 trivial ?_
              refine then_n ?_
              refine awp_seq ?_
              obtain ⟨r7, q23, h24⟩ := bind_some h22
              refine awp_reg [.pure (.bool r7)] [1, 13, 14, 15, 35, 36, 37, 64] 1 ⟨67, [(1, .ref 0 0), (13, sL 2 c_TPrefixList a0.fLists), (14, .int .i64 (a0.fLists.length : Int)), (15, .int .i64 p1), (35, sL 5 c_TPrefixRule ((a0.fLists.getD p1.toNat default).fRules)), (36, .int .i64 (((a0.fLists.getD p1.toNat default).fRules).length : Int)), (37, .int .i64 p5), (64, .bool ((((!r7) || (decide (((((a0.fLists.getD p1.toNat default).fRules).getD p5.toNat default).fMin) < (((((a0.fLists.getD p1.toNat default).fRules).getD p5.toNat default).fPrefix).fLen)))) || (decide (((((a0.fLists.getD p1.toNat default).fRules).getD p5.toNat default).fMax) < ((((a0.fLists.getD p1.toNat default).fRules).getD p5.toNat default).fMin)))) || (decide (((((a0.fLists.getD p1.toNat default).fRules).getD p5.toNat default).fMax) > 32))))], [.box (c_TRouter a0)]⟩ [] [⟨true, 88, [.agg (c_TPrefix ((((a0.fLists.getD p1.toNat default).fRules).getD p5.toNat default).fPrefix))], .pure (.bool r7)⟩] (by kernel_rfl) nil_all ⟨fun _ => addr_Valid_ok ((((a0.fLists.getD p1.toNat default).fRules).getD p5.toNat default).fPrefix) r7 q23, trivial⟩ ?_
              refine then_n ?_
              refine awp_cond (b := (((!r7) || (decide (((((a0.fLists.getD p1.toNat default).fRules).getD p5.toNat default).fMin) < (((((a0.fLists.getD p1.toNat default).fRules).getD p5.toNat default).fPrefix).fLen)))) || (decide (((((a0.fLists.getD p1.toNat default).fRules).getD p5.toNat default).fMax) < ((((a0.fLists.getD p1.toNat default).fRules).getD p5.toNat default).fMin)))) || (decide (((((a0.fLists.getD p1.toNat default).fRules).getD p5.toNat default).fMax) > 32))) (by kernel_rfl) (fun b25 => ?_) (fun b25 => ?_)
              · have h26 := cond_t b25 h24
                refine awp_seq ?_
                refine awp_reg [] [2] 0 ⟨67, [(2, .int .i64 1)], []⟩ [] [] (by kernel_rfl) nil_all trivial ?_
                refine then_n ?_
                refine awp_ret ?_
                refine inb_r ?_
                refine then_r ?_
                obtain rfl := Option.some.inj h26
                exact round_r ⟨rfl, ends_r (.int .i64 1) (by kernel_rfl) Sub.rfl⟩
              · have h27 := cond_f b25 h24
                refine awp_skip ?_
                refine inb_n ?_
                refine then_n ?_
                refine awp_reg [] [1, 13, 14, 15, 35, 36, 37] 1 ⟨67, [(1, .ref 0 0), (13, sL 2 c_TPrefixList a0.fLists), (14, .int .i64 (a0.fLists.length : Int)), (15, .int .i64 p1), (35, sL 5 c_TPrefixRule ((a0.fLists.getD p1.toNat default).fRules)), (36, .int .i64 (((a0.fLists.getD p1.toNat default).fRules).length : Int)), (37, .int .i64 (wr .i64 (p5 + 1)))], [.box (c_TRouter a0)]⟩ [] [] (by kernel_rfl) nil_all trivial ?_
                obtain rfl := Option.some.inj h27
                exact round_n (le_rfl)
            · have h20 := cond_f b18 h17
              refine awp_exit ?_
              refine then_e ?_
              obtain rfl := Option.some.inj h20
              exact round_e ⟨rfl, le_keep' [1, 13, 14, 15] (by kernel_rfl)⟩
          · intro e30 s31 o32
            rcases y8 with g9 | y10
            · have h33 := elim_l h29
              obtain ⟨rfl, l35⟩ := o32
              refine inb_here ?_
              refine inb_n ?_
              refine then_le (s' := ⟨67, [(1, .ref 0 0), (13, sL 2 c_TPrefixList a0.fLists), (14, .int .i64 (a0.fLists.length : Int)), (15, .int .i64 p1)], [.box (c_TRouter a0)]⟩) (l35) ?_
              refine awp_reg [] [1, 13, 14, 15] 1 ⟨67, [(1, .ref 0 0), (13, sL 2 c_TPrefixList a0.fLists), (14, .int .i64 (a0.fLists.length : Int)), (15, .int .i64 (wr .i64 (p1 + 1)))], [.box (c_TRouter a0)]⟩ [] [] (by kernel_rfl) nil_all trivial ?_
              obtain rfl := Option.some.inj h33
              exact round_n (le_rfl)
            · have h34 := elim_r h29
              obtain ⟨rfl, n36⟩ := o32
              refine inb_r ?_
              refine inb_r ?_
              refine then_r ?_
              obtain rfl := Option.some.inj h34
              exact round_r ⟨rfl, n36⟩
      · have h7 := cond_f b5 h4
        refine awp_exit ?_
        refine then_e ?_
        obtain rfl := Option.some.inj h7
        exact round_e ⟨rfl, Le.trans (s' := ⟨67, [], [.box (c_TRouter a0)]⟩) (le_keep' [] (by kernel_rfl)) (le_cut (n := 0) (by kernel_rfl))⟩
    · intro e39 s40 o41
      rcases y11 with g12 | y13
      · have h42 := elim_l h38
        obtain ⟨rfl, l44⟩ := o41
        refine inb_here ?_
        refine then_le (s' := ⟨67, [], []⟩) (l44) ?_
        refine awp_seq ?_
        refine awp_reg [] [2] 0 ⟨67, [(2, .int .i64 0)], []⟩ [] [] (by kernel_rfl) nil_all trivial ?_
        refine then_n ?_
        refine awp_ret ?_
        obtain rfl := Option.some.inj h42
        exact ends_r (.int .i64 0) (by kernel_rfl) Sub.rfl
      · have h43 := elim_r h38
        obtain ⟨rfl, n45⟩ := o41
        refine inb_r ?_
        refine then_r ?_
        obtain rfl := Option.some.inj h43
        exact n45

/- netverify/model.rightClause -/
noncomputable def M.model_rightClause (a0 : TClause) : Option Bool :=
  (M.model_within a0.fTag (-1) 65535).bind fun r1 => (gc r1 (M.model_within a0.fSetMetric (-1) 16777215)).bind fun r2 => (gc (r1 && r2) (M.model_within a0.fSetTag (-1) 65535)).bind fun r3 => (gc ((r1 && r2) && r3) (M.model_within a0.fSetPref (-1) 1000000)).bind fun r4 => (gc (((r1 && r2) && r3) && r4) (M.model_within a0.fPrepend 0 8)).bind fun r5 => some ((((r1 && r2) && r3) && r4) && r5)
theorem model_rightClause_ok (a0 : TClause) (r : Bool) (h : M.model_rightClause a0 = some r) : Fn Try.prog 89 [.agg (c_TClause a0)] (.pure (.bool r)) := by
  unfold M.model_rightClause at h
  refine fn_pure Try.func89 rfl (by kernel_rfl) ?_
  refine awp_seq ?_
  refine awp_reg [] [1] 1 ⟨26, [(1, .ref 0 0)], [.box (c_TClause a0)]⟩ [] [] (by kernel_rfl) nil_all trivial ?_
  refine then_n ?_
  refine awp_seq ?_
  obtain ⟨r1, q1, h2⟩ := bind_some h
  obtain ⟨r2, q3, h4⟩ := bind_some h2
  obtain ⟨r3, q5, h6⟩ := bind_some h4
  obtain ⟨r4, q7, h8⟩ := bind_some h6
  obtain ⟨r5, q9, h10⟩ := bind_some h8
  refine awp_reg [.pure (.bool r1), .pure (.bool r2), .pure (.bool r3), .pure (.bool r4), .pure (.bool r5)] [2] 0 ⟨26, [(2, .bool ((((r1 && r2) && r3) && r4) && r5))], []⟩ [] [⟨true, 61, [.int .i64 a0.fTag, .int .i64 (-1), .int .i64 65535], .pure (.bool r1)⟩, ⟨r1, 61, [.int .i64 a0.fSetMetric, .int .i64 (-1), .int .i64 16777215], .pure (.bool r2)⟩, ⟨r1 && r2, 61, [.int .i64 a0.fSetTag, .int .i64 (-1), .int .i64 65535], .pure (.bool r3)⟩, ⟨(r1 && r2) && r3, 61, [.int .i64 a0.fSetPref, .int .i64 (-1), .int .i64 1000000], .pure (.bool r4)⟩, ⟨((r1 && r2) && r3) && r4, 61, [.int .i64 a0.fPrepend, .int .i64 0, .int .i64 8], .pure (.bool r5)⟩] (by kernel_rfl) nil_all ⟨fun _ => model_within_ok a0.fTag (-1) 65535 r1 q1, fun hg => model_within_ok a0.fSetMetric (-1) 16777215 r2 (gc_some q3 hg), fun hg => model_within_ok a0.fSetTag (-1) 65535 r3 (gc_some q5 hg), fun hg => model_within_ok a0.fSetPref (-1) 1000000 r4 (gc_some q7 hg), fun hg => model_within_ok a0.fPrepend 0 8 r5 (gc_some q9 hg), trivial⟩ ?_
  refine then_n ?_
  refine awp_ret ?_
  obtain rfl := Option.some.inj h10
  exact ends_r (.bool ((((r1 && r2) && r3) && r4) && r5)) (by kernel_rfl) Sub.rfl

/- netverify/model.checkRouteMaps -/
noncomputable def M.model_checkRouteMaps_l2 (a0 : TRouter) (p1 : Int) (p5 : Int) : Option (Int ⊕ (Unit ⊕ Int)) :=
  bif decide (p5 < (((a0.fMaps.getD p1.toNat default).fClauses).length : Int)) then (gd [decide (0 ≤ p5), decide (p5 < (((a0.fMaps.getD p1.toNat default).fClauses).length : Int))] ((gc (!strEq ((((a0.fMaps.getD p1.toNat default).fClauses).getD p5.toNat default).fList) (⟨#[]⟩ : ByteArray)) (M.model_PrefixList a0 ((((a0.fMaps.getD p1.toNat default).fClauses).getD p5.toNat default).fList))).bind fun r7 => bif (!strEq ((((a0.fMaps.getD p1.toNat default).fClauses).getD p5.toNat default).fList) (⟨#[]⟩ : ByteArray)) && (decide (r7 < 0)) then (some (.inr (.inr 5))) else ((M.model_rightClause (((a0.fMaps.getD p1.toNat default).fClauses).getD p5.toNat default)).bind fun r8 => bif !r8 then (some (.inr (.inr 1))) else (some (.inl (wr .i64 (p5 + 1))))))) else (some (.inr (.inl ())))
noncomputable def M.model_checkRouteMaps_l1 (a0 : TRouter) (p1 : Int) : Option (Int ⊕ (Unit ⊕ Int)) :=
  bif decide (p1 < (a0.fMaps.length : Int)) then (gd [decide (0 ≤ p1), decide (p1 < (a0.fMaps.length : Int))] ((M.model_RouteMap a0 ((a0.fMaps.getD p1.toNat default).fName)).bind fun r3 => (M.model_checkList p1 r3 ((a0.fMaps.getD p1.toNat default).fName) (((a0.fMaps.getD p1.toNat default).fClauses).length : Int) 8).bind fun r4 => bif r4 != 0 then (some (.inr (.inr r4))) else ((loopM (M.model_checkRouteMaps_l2 a0 p1) 0).bind fun y9 => Sum.elim (fun g10 => some (.inl (wr .i64 (p1 + 1)))) (fun y11 => some (.inr (.inr y11))) y9))) else (some (.inr (.inl ())))
noncomputable def M.model_checkRouteMaps (a0 : TRouter) : Option Int :=
  bif decide ((a0.fMaps.length : Int) > 8) then (some 7) else ((loopM (M.model_checkRouteMaps_l1 a0) 0).bind fun y12 => Sum.elim (fun g13 => some 0) (fun y14 => some y14) y12)
theorem model_checkRouteMaps_ok (a0 : TRouter) (r : Int) (h : M.model_checkRouteMaps a0 = some r) : Fn Try.prog 64 [.agg (c_TRouter a0)] (.pure (.int .i64 r)) := by
  unfold M.model_checkRouteMaps at h
  refine fn_pure Try.func64 rfl (by kernel_rfl) ?_
  refine awp_seq ?_
  refine awp_reg [] [1] 1 ⟨56, [(1, .ref 0 0)], [.box (c_TRouter a0)]⟩ [] [] (by kernel_rfl) nil_all trivial ?_
  refine then_n ?_
  refine awp_seq ?_
  refine awp_seq ?_
  refine awp_reg [] [1, 11] 1 ⟨56, [(1, .ref 0 0), (11, .bool (decide ((a0.fMaps.length : Int) > 8)))], [.box (c_TRouter a0)]⟩ [] [] (by kernel_rfl) nil_all trivial ?_
  refine then_n ?_
  refine awp_cond (b := decide ((a0.fMaps.length : Int) > 8)) (by kernel_rfl) (fun b1 => ?_) (fun b1 => ?_)
  · have h2 := cond_t b1 h
    refine awp_seq ?_
    refine awp_reg [] [2] 0 ⟨56, [(2, .int .i64 7)], []⟩ [] [] (by kernel_rfl) nil_all trivial ?_
    refine then_n ?_
    refine awp_ret ?_
    refine then_r ?_
    obtain rfl := Option.some.inj h2
    exact ends_r (.int .i64 7) (by kernel_rfl) Sub.rfl
  · have h3 := cond_f b1 h
    refine awp_skip ?_
    refine then_n ?_
    refine awp_seq ?_
    refine awp_seq ?_
    refine awp_reg [] [1, 13, 14, 15] 1 ⟨56, [(1, .ref 0 0), (13, sL 2 c_TRouteMap a0.fMaps), (14, .int .i64 (a0.fMaps.length : Int)), (15, .int .i64 0)], [.box (c_TRouter a0)]⟩ [] [] (by kernel_rfl) nil_all trivial ?_
    refine then_n ?_
    refine awp_block ?_
    obtain ⟨y12, q42, h43⟩ := bind_some h3
    refine awp_le (s' := ⟨56, [(1, .ref 0 0), (13, sL 2 c_TRouteMap a0.fMaps), (14, .int .i64 (a0.fMaps.length : Int)), (15, .int .i64 0)], [.box (c_TRouter a0)]⟩) (le_rfl) ?_
    refine awp_mono (awp_loop (f := M.model_checkRouteMaps_l1 a0) (S := fun (p1 : Int) => ⟨56, [(1, .ref 0 0), (13, sL 2 c_TRouteMap a0.fMaps), (14, .int .i64 (a0.fMaps.length : Int)), (15, .int .i64 p1)], [.box (c_TRouter a0)]⟩) (O := (Sum.elim (fun z => OutE 0 (fun z => ⟨56, [], []⟩) z) (fun z => OutR Try.prog Try.f64 (.int .i64 z)))) ?_ (x := 0) (y := y12) (loopM_iter q42)) ?_
    · intro p1 y2 h4
      unfold M.model_checkRouteMaps_l1 at h4
      refine awp_seq ?_
      refine awp_reg [] [1, 13, 14, 15, 16] 1 ⟨56, [(1, .ref 0 0), (13, sL 2 c_TRouteMap a0.fMaps), (14, .int .i64 (a0.fMaps.length : Int)), (15, .int .i64 p1), (16, .bool (decide (p1 < (a0.fMaps.length : Int))))], [.box (c_TRouter a0)]⟩ [] [] (by kernel_rfl) nil_all trivial ?_
      refine then_n ?_
      refine awp_seq ?_
      refine awp_cond (b := decide (p1 < (a0.fMaps.length : Int))) (by kernel_rfl) (fun b5 => ?_) (fun b5 => ?_)
      · have h6 := cond_t b5 h4
        refine awp_skip ?_
        refine then_n ?_
        refine awp_seq ?_
        refine awp_block ?_
        refine awp_seq ?_
        obtain ⟨c8, h9⟩ := gd_some h6
        refine awp_reg [] [1, 3, 4, 13, 14, 15] 2 ⟨56, [(1, .ref 0 0), (3, .int .i64 p1), (4, .ref 1 0), (13, sL 2 c_TRouteMap a0.fMaps), (14, .int .i64 (a0.fMaps.length : Int)), (15, .int .i64 p1)], [.box (c_TRouter a0), .box (c_TRouteMap (a0.fMaps.getD p1.toNat default))]⟩ [decide (0 ≤ p1), decide (p1 < (a0.fMaps.length : Int))] [] (by kernel_rfl) c8 trivial ?_
        refine then_n ?_
        refine awp_seq ?_
        refine awp_seq ?_
        obtain ⟨r3, q10, h11⟩ := bind_some h9
        obtain ⟨r4, q12, h13⟩ := bind_some h11
        refine awp_reg [.pure (.int .i64 r3), .pure (.int .i64 r4)] [1, 4, 5, 13, 14, 15] 2 ⟨56, [(1, .ref 0 0), (4, .ref 1 0), (5, .int .i64 r4), (13, sL 2 c_TRouteMap a0.fMaps), (14, .int .i64 (a0.fMaps.length : Int)), (15, .int .i64 p1)], [.box (c_TRouter a0), .box (c_TRouteMap (a0.fMaps.getD p1.toNat default))]⟩ [] [⟨true, 19, [.agg (c_TRouter a0), .str ((a0.fMaps.getD p1.toNat default).fName)], .pure (.int .i64 r3)⟩, ⟨true, 87, [.int .i64 p1, .int .i64 r3, .str ((a0.fMaps.getD p1.toNat default).fName), .int .i64 (((a0.fMaps.getD p1.toNat default).fClauses).length : Int), .int .i64 8], .pure (.int .i64 r4)⟩] (by kernel_rfl) nil_all ⟨fun _ => model_RouteMap_ok a0 ((a0.fMaps.getD p1.toNat default).fName) r3 q10, fun _ => model_checkList_ok p1 r3 ((a0.fMaps.getD p1.toNat default).fName) (((a0.fMaps.getD p1.toNat default).fClauses).length : Int) 8 r4 q12, trivial⟩ ?_
        refine then_n ?_
        refine awp_seq ?_
        refine awp_reg [] [1, 4, 5, 13, 14, 15, 32] 2 ⟨56, [(1, .ref 0 0), (4, .ref 1 0), (5, .int .i64 r4), (13, sL 2 c_TRouteMap a0.fMaps), (14, .int .i64 (a0.fMaps.length : Int)), (15, .int .i64 p1), (32, .bool (r4 != 0))], [.box (c_TRouter a0), .box (c_TRouteMap (a0.fMaps.getD p1.toNat default))]⟩ [] [] (by kernel_rfl) nil_all trivial ?_
        refine then_n ?_
        refine awp_cond (b := r4 != 0) (by kernel_rfl) (fun b14 => ?_) (fun b14 => ?_)
        · have h15 := cond_t b14 h13
          refine awp_seq ?_
          refine awp_reg [] [2] 0 ⟨56, [(2, .int .i64 r4)], []⟩ [] [] (by kernel_rfl) nil_all trivial ?_
          refine then_n ?_
          refine awp_ret ?_
          refine then_r ?_
          refine inb_r ?_
          refine then_r ?_
          obtain rfl := Option.some.inj h15
          exact round_r ⟨rfl, ends_r (.int .i64 r4) (by kernel_rfl) Sub.rfl⟩
        · have h16 := cond_f b14 h13
          refine awp_skip ?_
          refine then_n ?_
          refine awp_seq ?_
          refine awp_reg [] [1, 13, 14, 15, 35, 36, 37] 1 ⟨56, [(1, .ref 0 0), (13, sL 2 c_TRouteMap a0.fMaps), (14, .int .i64 (a0.fMaps.length : Int)), (15, .int .i64 p1), (35, sL 7 c_TClause ((a0.fMaps.getD p1.toNat default).fClauses)), (36, .int .i64 (((a0.fMaps.getD p1.toNat default).fClauses).length : Int)), (37, .int .i64 0)], [.box (c_TRouter a0)]⟩ [] [] (by kernel_rfl) nil_all trivial ?_
          refine then_n ?_
          refine awp_block ?_
          obtain ⟨y9, q33, h34⟩ := bind_some h16
          refine awp_le (s' := ⟨56, [(1, .ref 0 0), (13, sL 2 c_TRouteMap a0.fMaps), (14, .int .i64 (a0.fMaps.length : Int)), (15, .int .i64 p1), (35, sL 7 c_TClause ((a0.fMaps.getD p1.toNat default).fClauses)), (36, .int .i64 (((a0.fMaps.getD p1.toNat default).fClauses).length : Int)), (37, .int .i64 0)], [.box (c_TRouter a0)]⟩) (le_rfl) ?_
          refine awp_mono (awp_loop (f := M.model_checkRouteMaps_l2 a0 p1) (S := fun (p5 : Int) => ⟨56, [(1, .ref 0 0), (13, sL 2 c_TRouteMap a0.fMaps), (14, .int .i64 (a0.fMaps.length : Int)), (15, .int .i64 p1), (35, sL 7 c_TClause ((a0.fMaps.getD p1.toNat default).fClauses)), (36, .int .i64 (((a0.fMaps.getD p1.toNat default).fClauses).length : Int)), (37, .int .i64 p5)], [.box (c_TRouter a0)]⟩) (O := (Sum.elim (fun z => OutE 2 (fun z => ⟨56, [(1, .ref 0 0), (13, sL 2 c_TRouteMap a0.fMaps), (14, .int .i64 (a0.fMaps.length : Int)), (15, .int .i64 p1)], [.box (c_TRouter a0)]⟩) z) (fun z => OutR Try.prog Try.f64 (.int .i64 z)))) ?_ (x := 0) (y := y9) (loopM_iter q33)) ?_
          · intro p5 y6 h17
            unfold M.model_checkRouteMaps_l2 at h17
            refine awp_seq ?_
            refine awp_reg [] [1, 13, 14, 15, 35, 36, 37, 38] 1 ⟨56, [(1, .ref 0 0), (13, sL 2 c_TRouteMap a0.fMaps), (14, .int .i64 (a0.fMaps.length : Int)), (15, .int .i64 p1), (35, sL 7 c_TClause ((a0.fMaps.getD p1.toNat default).fClauses)), (36, .int .i64 (((a0.fMaps.getD p1.toNat default).fClauses).length : Int)), (37, .int .i64 p5), (38, .bool (decide (p5 < (((a0.fMaps.getD p1.toNat default).fClauses).length : Int))))], [.box (c_TRouter a0)]⟩ [] [] (by kernel_rfl) nil_all trivial ?_
            refine then_n ?_
            refine awp_seq ?_
            refine awp_cond (b := decide (p5 < (((a0.fMaps.getD p1.toNat default).fClauses).length : Int))) (by kernel_rfl) (fun b18 => ?_) (fun b18 => ?_)
            · have h19 := cond_t b18 h17
              refine awp_skip ?_
              refine then_n ?_
              refine awp_seq ?_
              refine awp_block ?_
              refine awp_seq ?_
              obtain ⟨c21, h22⟩ := gd_some h19
              refine awp_reg [] [1, 7, 13, 14, 15, 35, 36, 37] 2 ⟨56, [(1, .ref 0 0), (7, .ref 1 0), (13, sL 2 c_TRouteMap a0.fMaps), (14, .int .i64 (a0.fMaps.length : Int)), (15, .int .i64 p1), (35, sL 7 c_TClause ((a0.fMaps.getD p1.toNat default).fClauses)), (36, .int .i64 (((a0.fMaps.getD p1.toNat default).fClauses).length : Int)), (37, .int .i64 p5)], [.box (c_TRouter a0), .box (c_TClause (((a0.fMaps.getD p1.toNat default).fClauses).getD p5.toNat default))]⟩ [decide (0 ≤ p5), decide (p5 < (((a0.fMaps.getD p1.toNat default).fClauses).length : Int))] [] (by kernel_rfl) c21 trivial ?_
              refine then_n ?_
              refine awp_seq ?_
              refine awp_seq ?_
              obtain ⟨r7, q23, h24⟩ := bind_some h22
              refine awp_reg [.pure (.int .i64 r7)] [1, 7, 13, 14, 15, 35, 36, 37, 50] 2 ⟨56, [(1, .ref 0 0), (7, .ref 1 0), (13, sL 2 c_TRouteMap a0.fMaps), (14, .int .i64 (a0.fMaps.length : Int)), (15, .int .i64 p1), (35, sL 7 c_TClause ((a0.fMaps.getD p1.toNat default).fClauses)), (36, .int .i64 (((a0.fMaps.getD p1.toNat default).fClauses).length : Int)), (37, .int .i64 p5), (50, .bool ((!strEq ((((a0.fMaps.getD p1.toNat default).fClauses).getD p5.toNat default).fList) (⟨#[]⟩ : ByteArray)) && (decide (r7 < 0))))], [.box (c_TRouter a0), .box (c_TClause (((a0.fMaps.getD p1.toNat default).fClauses).getD p5.toNat default))]⟩ [] [⟨!strEq ((((a0.fMaps.getD p1.toNat default).fClauses).getD p5.toNat default).fList) (⟨#[]⟩ : ByteArray), 17, [.agg (c_TRouter a0), .str ((((a0.fMaps.getD p1.toNat default).fClauses).getD p5.toNat default).fList)], .pure (.int .i64 r7)⟩] (by kernel_rfl) nil_all ⟨fun hg => model_PrefixList_ok a0 ((((a0.fMaps.getD p1.toNat default).fClauses).getD p5.toNat default).fList) r7 (gc_some q23 hg), trivial⟩ ?_
              refine then_n ?_
              refine awp_cond (b := (!strEq ((((a0.fMaps.getD p1.toNat default).fClauses).getD p5.toNat default).fList) (⟨#[]⟩ : ByteArray)) && (decide (r7 < 0))) (by kernel_rfl) (fun b25 => ?_) (fun b25 => ?_)
              · have h26 := cond_t b25 h24
                refine awp_seq ?_
                refine awp_reg [] [2] 0 ⟨56, [(2, .int .i64 5)], []⟩ [] [] (by kernel_rfl) nil_all trivial ?_
                refine then_n ?_
                refine awp_ret ?_
                refine then_r ?_
                refine inb_r ?_
                refine then_r ?_
                obtain rfl := Option.some.inj h26
                exact round_r ⟨rfl, ends_r (.int .i64 5) (by kernel_rfl) Sub.rfl⟩
              · have h27 := cond_f b25 h24
                refine awp_skip ?_
                refine then_n ?_
                refine awp_seq ?_
                obtain ⟨r8, q28, h29⟩ := bind_some h27
                refine awp_reg [.pure (.bool r8)] [1, 13, 14, 15, 35, 36, 37, 53] 1 ⟨56, [(1, .ref 0 0), (13, sL 2 c_TRouteMap a0.fMaps), (14, .int .i64 (a0.fMaps.length : Int)), (15, .int .i64 p1), (35, sL 7 c_TClause ((a0.fMaps.getD p1.toNat default).fClauses)), (36, .int .i64 (((a0.fMaps.getD p1.toNat default).fClauses).length : Int)), (37, .int .i64 p5), (53, .bool (!r8))], [.box (c_TRouter a0)]⟩ [] [⟨true, 89, [.agg (c_TClause (((a0.fMaps.getD p1.toNat default).fClauses).getD p5.toNat default))], .pure (.bool r8)⟩] (by kernel_rfl) nil_all ⟨fun _ => model_rightClause_ok (((a0.fMaps.getD p1.toNat default).fClauses).getD p5.toNat default) r8 q28, trivial⟩ ?_
                refine then_n ?_
                refine awp_cond (b := !r8) (by kernel_rfl) (fun b30 => ?_) (fun b30 => ?_)
                · have h31 := cond_t b30 h29
                  refine awp_seq ?_
                  refine awp_reg [] [2] 0 ⟨56, [(2, .int .i64 1)], []⟩ [] [] (by kernel_rfl) nil_all trivial ?_
                  refine then_n ?_
                  refine awp_ret ?_
                  refine inb_r ?_
                  refine then_r ?_
                  obtain rfl := Option.some.inj h31
                  exact round_r ⟨rfl, ends_r (.int .i64 1) (by kernel_rfl) Sub.rfl⟩
                · have h32 := cond_f b30 h29
                  refine awp_skip ?_
                  refine inb_n ?_
                  refine then_n ?_
                  refine awp_reg [] [1, 13, 14, 15, 35, 36, 37] 1 ⟨56, [(1, .ref 0 0), (13, sL 2 c_TRouteMap a0.fMaps), (14, .int .i64 (a0.fMaps.length : Int)), (15, .int .i64 p1), (35, sL 7 c_TClause ((a0.fMaps.getD p1.toNat default).fClauses)), (36, .int .i64 (((a0.fMaps.getD p1.toNat default).fClauses).length : Int)), (37, .int .i64 (wr .i64 (p5 + 1)))], [.box (c_TRouter a0)]⟩ [] [] (by kernel_rfl) nil_all trivial ?_
                  obtain rfl := Option.some.inj h32
                  exact round_n (le_rfl)
            · have h20 := cond_f b18 h17
              refine awp_exit ?_
              refine then_e ?_
              obtain rfl := Option.some.inj h20
              exact round_e ⟨rfl, le_keep' [1, 13, 14, 15] (by kernel_rfl)⟩
          · intro e35 s36 o37
            rcases y9 with g10 | y11
            · have h38 := elim_l h34
              obtain ⟨rfl, l40⟩ := o37
              refine inb_here ?_
              refine inb_n ?_
              refine then_le (s' := ⟨56, [(1, .ref 0 0), (13, sL 2 c_TRouteMap a0.fMaps), (14, .int .i64 (a0.fMaps.length : Int)), (15, .int .i64 p1)], [.box (c_TRouter a0)]⟩) (l40) ?_
              refine awp_reg [] [1, 13, 14, 15] 1 ⟨56, [(1, .ref 0 0), (13, sL 2 c_TRouteMap a0.fMaps), (14, .int .i64 (a0.fMaps.length : Int)), (15, .int .i64 (wr .i64 (p1 + 1)))], [.box (c_TRouter a0)]⟩ [] [] (by kernel_rfl) nil_all trivial ?_
              obtain rfl := Option.some.inj h38
              exact round_n (le_rfl)
            · have h39 := elim_r h34
              obtain ⟨rfl, n41⟩ := o37
              refine inb_r ?_
              refine inb_r ?_
              refine then_r ?_
              obtain rfl := Option.some.inj h39
              exact round_r ⟨rfl, n41⟩
      · have h7 := cond_f b5 h4
        refine awp_exit ?_
        refine then_e ?_
        obtain rfl := Option.some.inj h7
        exact round_e ⟨rfl, Le.trans (s' := ⟨56, [], [.box (c_TRouter a0)]⟩) (le_keep' [] (by kernel_rfl)) (le_cut (n := 0) (by kernel_rfl))⟩
    · intro e44 s45 o46
      rcases y12 with g13 | y14
      · have h47 := elim_l h43
        obtain ⟨rfl, l49⟩ := o46
        refine inb_here ?_
        refine then_le (s' := ⟨56, [], []⟩) (l49) ?_
        refine awp_seq ?_
        refine awp_reg [] [2] 0 ⟨56, [(2, .int .i64 0)], []⟩ [] [] (by kernel_rfl) nil_all trivial ?_
        refine then_n ?_
        refine awp_ret ?_
        obtain rfl := Option.some.inj h47
        exact ends_r (.int .i64 0) (by kernel_rfl) Sub.rfl
      · have h48 := elim_r h43
        obtain ⟨rfl, n50⟩ := o46
        refine inb_r ?_
        refine then_r ?_
        obtain rfl := Option.some.inj h48
        exact n50

/- netverify/model.rightPorts -/
noncomputable def M.model_rightPorts (a0 : TPortRange) : Option Bool :=
  some (((decide (0 ≤ a0.fLo)) && (decide (a0.fLo ≤ a0.fHi))) && (decide (a0.fHi ≤ 65535)))
theorem model_rightPorts_ok (a0 : TPortRange) (r : Bool) (h : M.model_rightPorts a0 = some r) : Fn Try.prog 99 [.agg (c_TPortRange a0)] (.pure (.bool r)) := by
  unfold M.model_rightPorts at h
  refine fn_pure Try.func99 rfl (by kernel_rfl) ?_
  refine awp_seq ?_
  refine awp_reg [] [1] 1 ⟨18, [(1, .ref 0 0)], [.box (c_TPortRange a0)]⟩ [] [] (by kernel_rfl) nil_all trivial ?_
  refine then_n ?_
  refine awp_seq ?_
  refine awp_reg [] [2] 0 ⟨18, [(2, .bool (((decide (0 ≤ a0.fLo)) && (decide (a0.fLo ≤ a0.fHi))) && (decide (a0.fHi ≤ 65535))))], []⟩ [] [] (by kernel_rfl) nil_all trivial ?_
  refine then_n ?_
  refine awp_ret ?_
  obtain rfl := Option.some.inj h
  exact ends_r (.bool (((decide (0 ≤ a0.fLo)) && (decide (a0.fLo ≤ a0.fHi))) && (decide (a0.fHi ≤ 65535)))) (by kernel_rfl) Sub.rfl

/- netverify/model.rightRule -/
noncomputable def M.model_rightRule (a0 : TRule) : Option Bool :=
  (M.model_within a0.fProto (-1) 255).bind fun r1 => bif ((!r1) || ((bitD .and .u32 a0.fSrc.fAddr a0.fSrc.fMask) != 0)) || ((bitD .and .u32 a0.fDst.fAddr a0.fDst.fMask) != 0) then (some false) else ((M.model_rightPorts a0.fSrcPorts).bind fun r2 => (gc (!(!r2)) (M.model_rightPorts a0.fDstPorts)).bind fun r3 => bif (!r2) || (!r3) then (some false) else (some (((a0.fProto == 6) || (a0.fProto == 17)) || (((a0.fSrcPorts.fLo == 0) && ((a0.fSrcPorts.fHi == 65535) && true)) && ((a0.fDstPorts.fLo == 0) && ((a0.fDstPorts.fHi == 65535) && true))))))
theorem model_rightRule_ok (a0 : TRule) (r : Bool) (h : M.model_rightRule a0 = some r) : Fn Try.prog 90 [.agg (c_TRule a0)] (.pure (.bool r)) := by
  unfold M.model_rightRule at h
  refine fn_pure Try.func90 rfl (by kernel_rfl) ?_
  refine awp_seq ?_
  refine awp_reg [] [1] 1 ⟨59, [(1, .ref 0 0)], [.box (c_TRule a0)]⟩ [] [] (by kernel_rfl) nil_all trivial ?_
  refine then_n ?_
  refine awp_seq ?_
  refine awp_seq ?_
  obtain ⟨r1, q1, h2⟩ := bind_some h
  refine awp_reg [.pure (.bool r1)] [1, 27] 1 ⟨59, [(1, .ref 0 0), (27, .bool (((!r1) || ((bitD .and .u32 a0.fSrc.fAddr a0.fSrc.fMask) != 0)) || ((bitD .and .u32 a0.fDst.fAddr a0.fDst.fMask) != 0)))], [.box (c_TRule a0)]⟩ [] [⟨true, 61, [.int .i64 a0.fProto, .int .i64 (-1), .int .i64 255], .pure (.bool r1)⟩] (by kernel_rfl) nil_all ⟨fun _ => model_within_ok a0.fProto (-1) 255 r1 q1, trivial⟩ ?_
  refine then_n ?_
  refine awp_cond (b := ((!r1) || ((bitD .and .u32 a0.fSrc.fAddr a0.fSrc.fMask) != 0)) || ((bitD .and .u32 a0.fDst.fAddr a0.fDst.fMask) != 0)) (by kernel_rfl) (fun b3 => ?_) (fun b3 => ?_)
  · have h4 := cond_t b3 h2
    refine awp_seq ?_
    refine awp_reg [] [2] 0 ⟨59, [(2, .bool false)], []⟩ [] [] (by kernel_rfl) nil_all trivial ?_
    refine then_n ?_
    refine awp_ret ?_
    refine then_r ?_
    obtain rfl := Option.some.inj h4
    exact ends_r (.bool false) (by kernel_rfl) Sub.rfl
  · have h5 := cond_f b3 h2
    refine awp_skip ?_
    refine then_n ?_
    refine awp_seq ?_
    refine awp_seq ?_
    obtain ⟨r2, q6, h7⟩ := bind_some h5
    obtain ⟨r3, q8, h9⟩ := bind_some h7
    refine awp_reg [.pure (.bool r2), .pure (.bool r3)] [1, 37] 1 ⟨59, [(1, .ref 0 0), (37, .bool ((!r2) || (!r3)))], [.box (c_TRule a0)]⟩ [] [⟨true, 99, [.agg (c_TPortRange a0.fSrcPorts)], .pure (.bool r2)⟩, ⟨(!(!r2)), 99, [.agg (c_TPortRange a0.fDstPorts)], .pure (.bool r3)⟩] (by kernel_rfl) nil_all ⟨fun _ => model_rightPorts_ok a0.fSrcPorts r2 q6, fun hg => model_rightPorts_ok a0.fDstPorts r3 (gc_some q8 hg), trivial⟩ ?_
    refine then_n ?_
    refine awp_cond (b := (!r2) || (!r3)) (by kernel_rfl) (fun b10 => ?_) (fun b10 => ?_)
    · have h11 := cond_t b10 h9
      refine awp_seq ?_
      refine awp_reg [] [2] 0 ⟨59, [(2, .bool false)], []⟩ [] [] (by kernel_rfl) nil_all trivial ?_
      refine then_n ?_
      refine awp_ret ?_
      refine then_r ?_
      obtain rfl := Option.some.inj h11
      exact ends_r (.bool false) (by kernel_rfl) Sub.rfl
    · have h12 := cond_f b10 h9
      refine awp_skip ?_
      refine then_n ?_
      refine awp_seq ?_
      refine awp_reg [] [1, 3] 2 ⟨59, [(1, .ref 0 0), (3, .ref 1 0)], [.box (c_TRule a0), .box [.int .i64 0, .int .i64 65535]]⟩ [] [] (by kernel_rfl) nil_all trivial ?_
      refine then_n ?_
      refine awp_seq ?_
      refine awp_reg [] [2] 0 ⟨59, [(2, .bool (((a0.fProto == 6) || (a0.fProto == 17)) || (((a0.fSrcPorts.fLo == 0) && ((a0.fSrcPorts.fHi == 65535) && true)) && ((a0.fDstPorts.fLo == 0) && ((a0.fDstPorts.fHi == 65535) && true)))))], []⟩ [] [] (by kernel_rfl) nil_all trivial ?_
      refine then_n ?_
      refine awp_ret ?_
      obtain rfl := Option.some.inj h12
      exact ends_r (.bool (((a0.fProto == 6) || (a0.fProto == 17)) || (((a0.fSrcPorts.fLo == 0) && ((a0.fSrcPorts.fHi == 65535) && true)) && ((a0.fDstPorts.fLo == 0) && ((a0.fDstPorts.fHi == 65535) && true))))) (by kernel_rfl) Sub.rfl

/- netverify/model.checkACLs -/
noncomputable def M.model_checkACLs_l2 (a0 : TRouter) (p1 : Int) (p5 : Int) : Option (Int ⊕ (Unit ⊕ Int)) :=
  bif decide (p5 < (((a0.fACLs.getD p1.toNat default).fRules).length : Int)) then (gd [decide (0 ≤ p5), decide (p5 < (((a0.fACLs.getD p1.toNat default).fRules).length : Int))] ((M.model_rightRule (((a0.fACLs.getD p1.toNat default).fRules).getD p5.toNat default)).bind fun r7 => bif !r7 then (some (.inr (.inr 1))) else (some (.inl (wr .i64 (p5 + 1)))))) else (some (.inr (.inl ())))
noncomputable def M.model_checkACLs_l1 (a0 : TRouter) (p1 : Int) : Option (Int ⊕ (Unit ⊕ Int)) :=
  bif decide (p1 < (a0.fACLs.length : Int)) then (gd [decide (0 ≤ p1), decide (p1 < (a0.fACLs.length : Int))] ((M.model_ACL a0 ((a0.fACLs.getD p1.toNat default).fName)).bind fun r3 => (M.model_checkList p1 r3 ((a0.fACLs.getD p1.toNat default).fName) (((a0.fACLs.getD p1.toNat default).fRules).length : Int) 16).bind fun r4 => bif r4 != 0 then (some (.inr (.inr r4))) else ((loopM (M.model_checkACLs_l2 a0 p1) 0).bind fun y8 => Sum.elim (fun g9 => some (.inl (wr .i64 (p1 + 1)))) (fun y10 => some (.inr (.inr y10))) y8))) else (some (.inr (.inl ())))
noncomputable def M.model_checkACLs (a0 : TRouter) : Option Int :=
  bif decide ((a0.fACLs.length : Int) > 8) then (some 7) else ((loopM (M.model_checkACLs_l1 a0) 0).bind fun y11 => Sum.elim (fun g12 => some 0) (fun y13 => some y13) y11)
theorem model_checkACLs_ok (a0 : TRouter) (r : Int) (h : M.model_checkACLs a0 = some r) : Fn Try.prog 65 [.agg (c_TRouter a0)] (.pure (.int .i64 r)) := by
  unfold M.model_checkACLs at h
  refine fn_pure Try.func65 rfl (by kernel_rfl) ?_
  refine awp_seq ?_
  refine awp_reg [] [1] 1 ⟨46, [(1, .ref 0 0)], [.box (c_TRouter a0)]⟩ [] [] (by kernel_rfl) nil_all trivial ?_
  refine then_n ?_
  refine awp_seq ?_
  refine awp_seq ?_
  refine awp_reg [] [1, 11] 1 ⟨46, [(1, .ref 0 0), (11, .bool (decide ((a0.fACLs.length : Int) > 8)))], [.box (c_TRouter a0)]⟩ [] [] (by kernel_rfl) nil_all trivial ?_
  refine then_n ?_
  refine awp_cond (b := decide ((a0.fACLs.length : Int) > 8)) (by kernel_rfl) (fun b1 => ?_) (fun b1 => ?_)
  · have h2 := cond_t b1 h
    refine awp_seq ?_
    refine awp_reg [] [2] 0 ⟨46, [(2, .int .i64 7)], []⟩ [] [] (by kernel_rfl) nil_all trivial ?_
    refine then_n ?_
    refine awp_ret ?_
    refine then_r ?_
    obtain rfl := Option.some.inj h2
    exact ends_r (.int .i64 7) (by kernel_rfl) Sub.rfl
  · have h3 := cond_f b1 h
    refine awp_skip ?_
    refine then_n ?_
    refine awp_seq ?_
    refine awp_seq ?_
    refine awp_reg [] [1, 13, 14, 15] 1 ⟨46, [(1, .ref 0 0), (13, sL 2 c_TACL a0.fACLs), (14, .int .i64 (a0.fACLs.length : Int)), (15, .int .i64 0)], [.box (c_TRouter a0)]⟩ [] [] (by kernel_rfl) nil_all trivial ?_
    refine then_n ?_
    refine awp_block ?_
    obtain ⟨y11, q37, h38⟩ := bind_some h3
    refine awp_le (s' := ⟨46, [(1, .ref 0 0), (13, sL 2 c_TACL a0.fACLs), (14, .int .i64 (a0.fACLs.length : Int)), (15, .int .i64 0)], [.box (c_TRouter a0)]⟩) (le_rfl) ?_
    refine awp_mono (awp_loop (f := M.model_checkACLs_l1 a0) (S := fun (p1 : Int) => ⟨46, [(1, .ref 0 0), (13, sL 2 c_TACL a0.fACLs), (14, .int .i64 (a0.fACLs.length : Int)), (15, .int .i64 p1)], [.box (c_TRouter a0)]⟩) (O := (Sum.elim (fun z => OutE 0 (fun z => ⟨46, [], []⟩) z) (fun z => OutR Try.prog Try.f65 (.int .i64 z)))) ?_ (x := 0) (y := y11) (loopM_iter q37)) ?_
    · intro p1 y2 h4
      unfold M.model_checkACLs_l1 at h4
      refine awp_seq ?_
      refine awp_reg [] [1, 13, 14, 15, 16] 1 ⟨46, [(1, .ref 0 0), (13, sL 2 c_TACL a0.fACLs), (14, .int .i64 (a0.fACLs.length : Int)), (15, .int .i64 p1), (16, .bool (decide (p1 < (a0.fACLs.length : Int))))], [.box (c_TRouter a0)]⟩ [] [] (by kernel_rfl) nil_all trivial ?_
      refine then_n ?_
      refine awp_seq ?_
      refine awp_cond (b := decide (p1 < (a0.fACLs.length : Int))) (by kernel_rfl) (fun b5 => ?_) (fun b5 => ?_)
      · have h6 := cond_t b5 h4
        refine awp_skip ?_
        refine then_n ?_
        refine awp_seq ?_
        refine awp_block ?_
        refine awp_seq ?_
        obtain ⟨c8, h9⟩ := gd_some h6
        refine awp_reg [] [1, 3, 4, 13, 14, 15] 2 ⟨46, [(1, .ref 0 0), (3, .int .i64 p1), (4, .ref 1 0), (13, sL 2 c_TACL a0.fACLs), (14, .int .i64 (a0.fACLs.length : Int)), (15, .int .i64 p1)], [.box (c_TRouter a0), .box (c_TACL (a0.fACLs.getD p1.toNat default))]⟩ [decide (0 ≤ p1), decide (p1 < (a0.fACLs.length : Int))] [] (by kernel_rfl) c8 trivial ?_
        refine then_n ?_
        refine awp_seq ?_
        refine awp_seq ?_
        obtain ⟨r3, q10, h11⟩ := bind_some h9
        obtain ⟨r4, q12, h13⟩ := bind_some h11
        refine awp_reg [.pure (.int .i64 r3), .pure (.int .i64 r4)] [1, 4, 5, 13, 14, 15] 2 ⟨46, [(1, .ref 0 0), (4, .ref 1 0), (5, .int .i64 r4), (13, sL 2 c_TACL a0.fACLs), (14, .int .i64 (a0.fACLs.length : Int)), (15, .int .i64 p1)], [.box (c_TRouter a0), .box (c_TACL (a0.fACLs.getD p1.toNat default))]⟩ [] [⟨true, 21, [.agg (c_TRouter a0), .str ((a0.fACLs.getD p1.toNat default).fName)], .pure (.int .i64 r3)⟩, ⟨true, 87, [.int .i64 p1, .int .i64 r3, .str ((a0.fACLs.getD p1.toNat default).fName), .int .i64 (((a0.fACLs.getD p1.toNat default).fRules).length : Int), .int .i64 16], .pure (.int .i64 r4)⟩] (by kernel_rfl) nil_all ⟨fun _ => model_ACL_ok a0 ((a0.fACLs.getD p1.toNat default).fName) r3 q10, fun _ => model_checkList_ok p1 r3 ((a0.fACLs.getD p1.toNat default).fName) (((a0.fACLs.getD p1.toNat default).fRules).length : Int) 16 r4 q12, trivial⟩ ?_
        refine then_n ?_
        refine awp_seq ?_
        refine awp_reg [] [1, 4, 5, 13, 14, 15, 32] 2 ⟨46, [(1, .ref 0 0), (4, .ref 1 0), (5, .int .i64 r4), (13, sL 2 c_TACL a0.fACLs), (14, .int .i64 (a0.fACLs.length : Int)), (15, .int .i64 p1), (32, .bool (r4 != 0))], [.box (c_TRouter a0), .box (c_TACL (a0.fACLs.getD p1.toNat default))]⟩ [] [] (by kernel_rfl) nil_all trivial ?_
        refine then_n ?_
        refine awp_cond (b := r4 != 0) (by kernel_rfl) (fun b14 => ?_) (fun b14 => ?_)
        · have h15 := cond_t b14 h13
          refine awp_seq ?_
          refine awp_reg [] [2] 0 ⟨46, [(2, .int .i64 r4)], []⟩ [] [] (by kernel_rfl) nil_all trivial ?_
          refine then_n ?_
          refine awp_ret ?_
          refine then_r ?_
          refine inb_r ?_
          refine then_r ?_
          obtain rfl := Option.some.inj h15
          exact round_r ⟨rfl, ends_r (.int .i64 r4) (by kernel_rfl) Sub.rfl⟩
        · have h16 := cond_f b14 h13
          refine awp_skip ?_
          refine then_n ?_
          refine awp_seq ?_
          refine awp_reg [] [1, 13, 14, 15, 35, 36, 37] 1 ⟨46, [(1, .ref 0 0), (13, sL 2 c_TACL a0.fACLs), (14, .int .i64 (a0.fACLs.length : Int)), (15, .int .i64 p1), (35, sL 10 c_TRule ((a0.fACLs.getD p1.toNat default).fRules)), (36, .int .i64 (((a0.fACLs.getD p1.toNat default).fRules).length : Int)), (37, .int .i64 0)], [.box (c_TRouter a0)]⟩ [] [] (by kernel_rfl) nil_all trivial ?_
          refine then_n ?_
          refine awp_block ?_
          obtain ⟨y8, q28, h29⟩ := bind_some h16
          refine awp_le (s' := ⟨46, [(1, .ref 0 0), (13, sL 2 c_TACL a0.fACLs), (14, .int .i64 (a0.fACLs.length : Int)), (15, .int .i64 p1), (35, sL 10 c_TRule ((a0.fACLs.getD p1.toNat default).fRules)), (36, .int .i64 (((a0.fACLs.getD p1.toNat default).fRules).length : Int)), (37, .int .i64 0)], [.box (c_TRouter a0)]⟩) (le_rfl) ?_
          refine awp_mono (awp_loop (f := M.model_checkACLs_l2 a0 p1) (S := fun (p5 : Int) => ⟨46, [(1, .ref 0 0), (13, sL 2 c_TACL a0.fACLs), (14, .int .i64 (a0.fACLs.length : Int)), (15, .int .i64 p1), (35, sL 10 c_TRule ((a0.fACLs.getD p1.toNat default).fRules)), (36, .int .i64 (((a0.fACLs.getD p1.toNat default).fRules).length : Int)), (37, .int .i64 p5)], [.box (c_TRouter a0)]⟩) (O := (Sum.elim (fun z => OutE 2 (fun z => ⟨46, [(1, .ref 0 0), (13, sL 2 c_TACL a0.fACLs), (14, .int .i64 (a0.fACLs.length : Int)), (15, .int .i64 p1)], [.box (c_TRouter a0)]⟩) z) (fun z => OutR Try.prog Try.f65 (.int .i64 z)))) ?_ (x := 0) (y := y8) (loopM_iter q28)) ?_
          · intro p5 y6 h17
            unfold M.model_checkACLs_l2 at h17
            refine awp_seq ?_
            refine awp_reg [] [1, 13, 14, 15, 35, 36, 37, 38] 1 ⟨46, [(1, .ref 0 0), (13, sL 2 c_TACL a0.fACLs), (14, .int .i64 (a0.fACLs.length : Int)), (15, .int .i64 p1), (35, sL 10 c_TRule ((a0.fACLs.getD p1.toNat default).fRules)), (36, .int .i64 (((a0.fACLs.getD p1.toNat default).fRules).length : Int)), (37, .int .i64 p5), (38, .bool (decide (p5 < (((a0.fACLs.getD p1.toNat default).fRules).length : Int))))], [.box (c_TRouter a0)]⟩ [] [] (by kernel_rfl) nil_all trivial ?_
            refine then_n ?_
            refine awp_seq ?_
            refine awp_cond (b := decide (p5 < (((a0.fACLs.getD p1.toNat default).fRules).length : Int))) (by kernel_rfl) (fun b18 => ?_) (fun b18 => ?_)
            · have h19 := cond_t b18 h17
              refine awp_skip ?_
              refine then_n ?_
              refine awp_seq ?_
              refine awp_block ?_
              refine awp_seq ?_
              obtain ⟨c21, h22⟩ := gd_some h19
              refine awp_reg [] [1, 7, 13, 14, 15, 35, 36, 37] 2 ⟨46, [(1, .ref 0 0), (7, .ref 1 0), (13, sL 2 c_TACL a0.fACLs), (14, .int .i64 (a0.fACLs.length : Int)), (15, .int .i64 p1), (35, sL 10 c_TRule ((a0.fACLs.getD p1.toNat default).fRules)), (36, .int .i64 (((a0.fACLs.getD p1.toNat default).fRules).length : Int)), (37, .int .i64 p5)], [.box (c_TRouter a0), .box (c_TRule (((a0.fACLs.getD p1.toNat default).fRules).getD p5.toNat default))]⟩ [decide (0 ≤ p5), decide (p5 < (((a0.fACLs.getD p1.toNat default).fRules).length : Int))] [] (by kernel_rfl) c21 trivial ?_
              refine then_n ?_
              refine awp_seq ?_
              obtain ⟨r7, q23, h24⟩ := bind_some h22
              refine awp_reg [.pure (.bool r7)] [1, 13, 14, 15, 35, 36, 37, 43] 1 ⟨46, [(1, .ref 0 0), (13, sL 2 c_TACL a0.fACLs), (14, .int .i64 (a0.fACLs.length : Int)), (15, .int .i64 p1), (35, sL 10 c_TRule ((a0.fACLs.getD p1.toNat default).fRules)), (36, .int .i64 (((a0.fACLs.getD p1.toNat default).fRules).length : Int)), (37, .int .i64 p5), (43, .bool (!r7))], [.box (c_TRouter a0)]⟩ [] [⟨true, 90, [.agg (c_TRule (((a0.fACLs.getD p1.toNat default).fRules).getD p5.toNat default))], .pure (.bool r7)⟩] (by kernel_rfl) nil_all ⟨fun _ => model_rightRule_ok (((a0.fACLs.getD p1.toNat default).fRules).getD p5.toNat default) r7 q23, trivial⟩ ?_
              refine then_n ?_
              refine awp_cond (b := !r7) (by kernel_rfl) (fun b25 => ?_) (fun b25 => ?_)
              · have h26 := cond_t b25 h24
                refine awp_seq ?_
                refine awp_reg [] [2] 0 ⟨46, [(2, .int .i64 1)], []⟩ [] [] (by kernel_rfl) nil_all trivial ?_
                refine then_n ?_
                refine awp_ret ?_
                refine inb_r ?_
                refine then_r ?_
                obtain rfl := Option.some.inj h26
                exact round_r ⟨rfl, ends_r (.int .i64 1) (by kernel_rfl) Sub.rfl⟩
              · have h27 := cond_f b25 h24
                refine awp_skip ?_
                refine inb_n ?_
                refine then_n ?_
                refine awp_reg [] [1, 13, 14, 15, 35, 36, 37] 1 ⟨46, [(1, .ref 0 0), (13, sL 2 c_TACL a0.fACLs), (14, .int .i64 (a0.fACLs.length : Int)), (15, .int .i64 p1), (35, sL 10 c_TRule ((a0.fACLs.getD p1.toNat default).fRules)), (36, .int .i64 (((a0.fACLs.getD p1.toNat default).fRules).length : Int)), (37, .int .i64 (wr .i64 (p5 + 1)))], [.box (c_TRouter a0)]⟩ [] [] (by kernel_rfl) nil_all trivial ?_
                obtain rfl := Option.some.inj h27
                exact round_n (le_rfl)
            · have h20 := cond_f b18 h17
              refine awp_exit ?_
              refine then_e ?_
              obtain rfl := Option.some.inj h20
              exact round_e ⟨rfl, le_keep' [1, 13, 14, 15] (by kernel_rfl)⟩
          · intro e30 s31 o32
            rcases y8 with g9 | y10
            · have h33 := elim_l h29
              obtain ⟨rfl, l35⟩ := o32
              refine inb_here ?_
              refine inb_n ?_
              refine then_le (s' := ⟨46, [(1, .ref 0 0), (13, sL 2 c_TACL a0.fACLs), (14, .int .i64 (a0.fACLs.length : Int)), (15, .int .i64 p1)], [.box (c_TRouter a0)]⟩) (l35) ?_
              refine awp_reg [] [1, 13, 14, 15] 1 ⟨46, [(1, .ref 0 0), (13, sL 2 c_TACL a0.fACLs), (14, .int .i64 (a0.fACLs.length : Int)), (15, .int .i64 (wr .i64 (p1 + 1)))], [.box (c_TRouter a0)]⟩ [] [] (by kernel_rfl) nil_all trivial ?_
              obtain rfl := Option.some.inj h33
              exact round_n (le_rfl)
            · have h34 := elim_r h29
              obtain ⟨rfl, n36⟩ := o32
              refine inb_r ?_
              refine inb_r ?_
              refine then_r ?_
              obtain rfl := Option.some.inj h34
              exact round_r ⟨rfl, n36⟩
      · have h7 := cond_f b5 h4
        refine awp_exit ?_
        refine then_e ?_
        obtain rfl := Option.some.inj h7
        exact round_e ⟨rfl, Le.trans (s' := ⟨46, [], [.box (c_TRouter a0)]⟩) (le_keep' [] (by kernel_rfl)) (le_cut (n := 0) (by kernel_rfl))⟩
    · intro e39 s40 o41
      rcases y11 with g12 | y13
      · have h42 := elim_l h38
        obtain ⟨rfl, l44⟩ := o41
        refine inb_here ?_
        refine then_le (s' := ⟨46, [], []⟩) (l44) ?_
        refine awp_seq ?_
        refine awp_reg [] [2] 0 ⟨46, [(2, .int .i64 0)], []⟩ [] [] (by kernel_rfl) nil_all trivial ?_
        refine then_n ?_
        refine awp_ret ?_
        obtain rfl := Option.some.inj h42
        exact ends_r (.int .i64 0) (by kernel_rfl) Sub.rfl
      · have h43 := elim_r h38
        obtain ⟨rfl, n45⟩ := o41
        refine inb_r ?_
        refine then_r ?_
        obtain rfl := Option.some.inj h43
        exact n45

/- netverify/model.rightTranslation -/
noncomputable def M.model_rightTranslation (a0 : TTranslation) : Option Bool :=
  bif a0.fKind == 1 then (some ((((a0.fKind == a0.fKind) && ((a0.fInside == a0.fInside) && ((a0.fOutside == a0.fOutside) && ((a0.fProto == 0) && ((a0.fInsidePort == 0) && ((a0.fOutsidePort == 0) && (strEq a0.fList (⟨#[]⟩ : ByteArray) && ((a0.fLo == 0) && ((a0.fHi == 0) && true))))))))) && (a0.fInside != 0)) && (a0.fOutside != 0))) else (bif a0.fKind == 2 then (some (((((a0.fKind == a0.fKind) && ((a0.fInside == 0) && ((a0.fOutside == 0) && ((a0.fProto == 0) && ((a0.fInsidePort == 0) && ((a0.fOutsidePort == 0) && (strEq a0.fList a0.fList && ((a0.fLo == a0.fLo) && ((a0.fHi == a0.fHi) && true))))))))) && (a0.fLo != 0)) && (decide (a0.fLo ≤ a0.fHi))) && (decide ((wr .u32 (a0.fHi - a0.fLo)) < 8)))) else (bif a0.fKind == 3 then ((gc (((a0.fInside != 0) && (a0.fOutside != 0)) && ((a0.fProto == 6) || (a0.fProto == 17))) (M.model_within a0.fInsidePort 0 65535)).bind fun r1 => (gc ((((a0.fInside != 0) && (a0.fOutside != 0)) && ((a0.fProto == 6) || (a0.fProto == 17))) && r1) (M.model_within a0.fOutsidePort 0 65535)).bind fun r2 => some ((((((((a0.fInside != 0) && (a0.fOutside != 0)) && ((a0.fProto == 6) || (a0.fProto == 17))) && r1) && r2) && (strEq a0.fList (⟨#[]⟩ : ByteArray))) && (a0.fLo == 0)) && (a0.fHi == 0))) else (some false)))
theorem model_rightTranslation_ok (a0 : TTranslation) (r : Bool) (h : M.model_rightTranslation a0 = some r) : Fn Try.prog 91 [.agg (c_TTranslation a0)] (.pure (.bool r)) := by
  unfold M.model_rightTranslation at h
  refine fn_pure Try.func91 rfl (by kernel_rfl) ?_
  refine awp_seq ?_
  refine awp_reg [] [1] 1 ⟨108, [(1, .ref 0 0)], [.box (c_TTranslation a0)]⟩ [] [] (by kernel_rfl) nil_all trivial ?_
  refine then_n ?_
  refine awp_seq ?_
  refine awp_seq ?_
  refine awp_reg [] [1, 6] 1 ⟨108, [(1, .ref 0 0), (6, .int .i64 a0.fKind)], [.box (c_TTranslation a0)]⟩ [] [] (by kernel_rfl) nil_all trivial ?_
  refine then_n ?_
  refine awp_block ?_
  refine awp_seq ?_
  refine awp_reg [] [1, 6, 7] 1 ⟨108, [(1, .ref 0 0), (6, .int .i64 a0.fKind), (7, .bool (a0.fKind == 1))], [.box (c_TTranslation a0)]⟩ [] [] (by kernel_rfl) nil_all trivial ?_
  refine then_n ?_
  refine awp_cond (b := a0.fKind == 1) (by kernel_rfl) (fun b1 => ?_) (fun b1 => ?_)
  · have h2 := cond_t b1 h
    refine awp_seq ?_
    refine awp_reg [] [1, 3] 2 ⟨108, [(1, .ref 0 0), (3, .ref 1 0)], [.box (c_TTranslation a0), .box [.int .i64 a0.fKind, .int .u32 a0.fInside, .int .u32 a0.fOutside, .int .i64 0, .int .i64 0, .int .i64 0, .str (⟨#[]⟩ : ByteArray), .int .u32 0, .int .u32 0]]⟩ [] [] (by kernel_rfl) nil_all trivial ?_
    refine then_n ?_
    refine awp_seq ?_
    refine awp_reg [] [2] 0 ⟨108, [(2, .bool ((((a0.fKind == a0.fKind) && ((a0.fInside == a0.fInside) && ((a0.fOutside == a0.fOutside) && ((a0.fProto == 0) && ((a0.fInsidePort == 0) && ((a0.fOutsidePort == 0) && (strEq a0.fList (⟨#[]⟩ : ByteArray) && ((a0.fLo == 0) && ((a0.fHi == 0) && true))))))))) && (a0.fInside != 0)) && (a0.fOutside != 0)))], []⟩ [] [] (by kernel_rfl) nil_all trivial ?_
    refine then_n ?_
    refine awp_ret ?_
    refine inb_r ?_
    refine then_r ?_
    obtain rfl := Option.some.inj h2
    exact ends_r (.bool ((((a0.fKind == a0.fKind) && ((a0.fInside == a0.fInside) && ((a0.fOutside == a0.fOutside) && ((a0.fProto == 0) && ((a0.fInsidePort == 0) && ((a0.fOutsidePort == 0) && (strEq a0.fList (⟨#[]⟩ : ByteArray) && ((a0.fLo == 0) && ((a0.fHi == 0) && true))))))))) && (a0.fInside != 0)) && (a0.fOutside != 0))) (by kernel_rfl) Sub.rfl
  · have h3 := cond_f b1 h
    refine awp_seq ?_
    refine awp_reg [] [1, 6, 29] 1 ⟨108, [(1, .ref 0 0), (6, .int .i64 a0.fKind), (29, .bool (a0.fKind == 2))], [.box (c_TTranslation a0)]⟩ [] [] (by kernel_rfl) nil_all trivial ?_
    refine then_n ?_
    refine awp_cond (b := a0.fKind == 2) (by kernel_rfl) (fun b4 => ?_) (fun b4 => ?_)
    · have h5 := cond_t b4 h3
      refine awp_seq ?_
      refine awp_reg [] [1, 4] 2 ⟨108, [(1, .ref 0 0), (4, .ref 1 0)], [.box (c_TTranslation a0), .box [.int .i64 a0.fKind, .int .u32 0, .int .u32 0, .int .i64 0, .int .i64 0, .int .i64 0, .str a0.fList, .int .u32 a0.fLo, .int .u32 a0.fHi]]⟩ [] [] (by kernel_rfl) nil_all trivial ?_
      refine then_n ?_
      refine awp_seq ?_
      refine awp_reg [] [2] 0 ⟨108, [(2, .bool (((((a0.fKind == a0.fKind) && ((a0.fInside == 0) && ((a0.fOutside == 0) && ((a0.fProto == 0) && ((a0.fInsidePort == 0) && ((a0.fOutsidePort == 0) && (strEq a0.fList a0.fList && ((a0.fLo == a0.fLo) && ((a0.fHi == a0.fHi) && true))))))))) && (a0.fLo != 0)) && (decide (a0.fLo ≤ a0.fHi))) && (decide ((wr .u32 (a0.fHi - a0.fLo)) < 8))))], []⟩ [] [] (by kernel_rfl) nil_all trivial ?_
      refine then_n ?_
      refine awp_ret ?_
      refine inb_r ?_
      refine then_r ?_
      obtain rfl := Option.some.inj h5
      exact ends_r (.bool (((((a0.fKind == a0.fKind) && ((a0.fInside == 0) && ((a0.fOutside == 0) && ((a0.fProto == 0) && ((a0.fInsidePort == 0) && ((a0.fOutsidePort == 0) && (strEq a0.fList a0.fList && ((a0.fLo == a0.fLo) && ((a0.fHi == a0.fHi) && true))))))))) && (a0.fLo != 0)) && (decide (a0.fLo ≤ a0.fHi))) && (decide ((wr .u32 (a0.fHi - a0.fLo)) < 8)))) (by kernel_rfl) Sub.rfl
    · have h6 := cond_f b4 h3
      refine awp_seq ?_
      refine awp_reg [] [1, 63] 1 ⟨108, [(1, .ref 0 0), (63, .bool (a0.fKind == 3))], [.box (c_TTranslation a0)]⟩ [] [] (by kernel_rfl) nil_all trivial ?_
      refine then_n ?_
      refine awp_cond (b := a0.fKind == 3) (by kernel_rfl) (fun b7 => ?_) (fun b7 => ?_)
      · have h8 := cond_t b7 h6
        refine awp_seq ?_
        obtain ⟨r1, q10, h11⟩ := bind_some h8
        obtain ⟨r2, q12, h13⟩ := bind_some h11
        refine awp_reg [.pure (.bool r1), .pure (.bool r2)] [2] 0 ⟨108, [(2, .bool ((((((((a0.fInside != 0) && (a0.fOutside != 0)) && ((a0.fProto == 6) || (a0.fProto == 17))) && r1) && r2) && (strEq a0.fList (⟨#[]⟩ : ByteArray))) && (a0.fLo == 0)) && (a0.fHi == 0)))], []⟩ [] [⟨((a0.fInside != 0) && (a0.fOutside != 0)) && ((a0.fProto == 6) || (a0.fProto == 17)), 61, [.int .i64 a0.fInsidePort, .int .i64 0, .int .i64 65535], .pure (.bool r1)⟩, ⟨(((a0.fInside != 0) && (a0.fOutside != 0)) && ((a0.fProto == 6) || (a0.fProto == 17))) && r1, 61, [.int .i64 a0.fOutsidePort, .int .i64 0, .int .i64 65535], .pure (.bool r2)⟩] (by kernel_rfl) nil_all ⟨fun hg => model_within_ok a0.fInsidePort 0 65535 r1 (gc_some q10 hg), fun hg => model_within_ok a0.fOutsidePort 0 65535 r2 (gc_some q12 hg), trivial⟩ ?_
        refine then_n ?_
        refine awp_ret ?_
        refine inb_r ?_
        refine then_r ?_
        obtain rfl := Option.some.inj h13
        exact ends_r (.bool ((((((((a0.fInside != 0) && (a0.fOutside != 0)) && ((a0.fProto == 6) || (a0.fProto == 17))) && r1) && r2) && (strEq a0.fList (⟨#[]⟩ : ByteArray))) && (a0.fLo == 0)) && (a0.fHi == 0))) (by kernel_rfl) Sub.rfl
      · have h9 := cond_f b7 h6
        refine awp_skip ?_
        refine inb_n ?_
        refine then_n ?_
        refine awp_seq ?_
        refine awp_reg [] [2] 0 ⟨108, [(2, .bool false)], []⟩ [] [] (by kernel_rfl) nil_all trivial ?_
        refine then_n ?_
        refine awp_ret ?_
        obtain rfl := Option.some.inj h9
        exact ends_r (.bool false) (by kernel_rfl) Sub.rfl

/- netverify/model.checkNAT -/
noncomputable def M.model_checkNAT_l1 (a0 : TRouter) (p1 : Int) : Option (Int ⊕ (Unit ⊕ Int)) :=
  bif decide (p1 < (a0.fNAT.length : Int)) then (gd [decide (0 ≤ p1), decide (p1 < (a0.fNAT.length : Int))] ((M.model_rightTranslation (a0.fNAT.getD p1.toNat default)).bind fun r3 => bif !r3 then (some (.inr (.inr 1))) else ((gc (((a0.fNAT.getD p1.toNat default).fKind) == 2) (M.model_ACL a0 ((a0.fNAT.getD p1.toNat default).fList))).bind fun r4 => bif (((a0.fNAT.getD p1.toNat default).fKind) == 2) && (decide (r4 < 0)) then (some (.inr (.inr 5))) else (some (.inl (wr .i64 (p1 + 1))))))) else (some (.inr (.inl ())))
noncomputable def M.model_checkNAT (a0 : TRouter) : Option Int :=
  bif decide ((a0.fNAT.length : Int) > 8) then (some 7) else ((loopM (M.model_checkNAT_l1 a0) 0).bind fun y5 => Sum.elim (fun g6 => some 0) (fun y7 => some y7) y5)
theorem model_checkNAT_ok (a0 : TRouter) (r : Int) (h : M.model_checkNAT a0 = some r) : Fn Try.prog 66 [.agg (c_TRouter a0)] (.pure (.int .i64 r)) := by
  unfold M.model_checkNAT at h
  refine fn_pure Try.func66 rfl (by kernel_rfl) ?_
  refine awp_seq ?_
  refine awp_reg [] [1] 1 ⟨30, [(1, .ref 0 0)], [.box (c_TRouter a0)]⟩ [] [] (by kernel_rfl) nil_all trivial ?_
  refine then_n ?_
  refine awp_seq ?_
  refine awp_seq ?_
  refine awp_reg [] [1, 8] 1 ⟨30, [(1, .ref 0 0), (8, .bool (decide ((a0.fNAT.length : Int) > 8)))], [.box (c_TRouter a0)]⟩ [] [] (by kernel_rfl) nil_all trivial ?_
  refine then_n ?_
  refine awp_cond (b := decide ((a0.fNAT.length : Int) > 8)) (by kernel_rfl) (fun b1 => ?_) (fun b1 => ?_)
  · have h2 := cond_t b1 h
    refine awp_seq ?_
    refine awp_reg [] [2] 0 ⟨30, [(2, .int .i64 7)], []⟩ [] [] (by kernel_rfl) nil_all trivial ?_
    refine then_n ?_
    refine awp_ret ?_
    refine then_r ?_
    obtain rfl := Option.some.inj h2
    exact ends_r (.int .i64 7) (by kernel_rfl) Sub.rfl
  · have h3 := cond_f b1 h
    refine awp_skip ?_
    refine then_n ?_
    refine awp_seq ?_
    refine awp_seq ?_
    refine awp_reg [] [1, 10, 11, 12] 1 ⟨30, [(1, .ref 0 0), (10, sL 9 c_TTranslation a0.fNAT), (11, .int .i64 (a0.fNAT.length : Int)), (12, .int .i64 0)], [.box (c_TRouter a0)]⟩ [] [] (by kernel_rfl) nil_all trivial ?_
    refine then_n ?_
    refine awp_block ?_
    obtain ⟨y5, q20, h21⟩ := bind_some h3
    refine awp_le (s' := ⟨30, [(1, .ref 0 0), (10, sL 9 c_TTranslation a0.fNAT), (11, .int .i64 (a0.fNAT.length : Int)), (12, .int .i64 0)], [.box (c_TRouter a0)]⟩) (le_rfl) ?_
    refine awp_mono (awp_loop (f := M.model_checkNAT_l1 a0) (S := fun (p1 : Int) => ⟨30, [(1, .ref 0 0), (10, sL 9 c_TTranslation a0.fNAT), (11, .int .i64 (a0.fNAT.length : Int)), (12, .int .i64 p1)], [.box (c_TRouter a0)]⟩) (O := (Sum.elim (fun z => OutE 0 (fun z => ⟨30, [], []⟩) z) (fun z => OutR Try.prog Try.f66 (.int .i64 z)))) ?_ (x := 0) (y := y5) (loopM_iter q20)) ?_
    · intro p1 y2 h4
      unfold M.model_checkNAT_l1 at h4
      refine awp_seq ?_
      refine awp_reg [] [1, 10, 11, 12, 13] 1 ⟨30, [(1, .ref 0 0), (10, sL 9 c_TTranslation a0.fNAT), (11, .int .i64 (a0.fNAT.length : Int)), (12, .int .i64 p1), (13, .bool (decide (p1 < (a0.fNAT.length : Int))))], [.box (c_TRouter a0)]⟩ [] [] (by kernel_rfl) nil_all trivial ?_
      refine then_n ?_
      refine awp_seq ?_
      refine awp_cond (b := decide (p1 < (a0.fNAT.length : Int))) (by kernel_rfl) (fun b5 => ?_) (fun b5 => ?_)
      · have h6 := cond_t b5 h4
        refine awp_skip ?_
        refine then_n ?_
        refine awp_seq ?_
        refine awp_block ?_
        refine awp_seq ?_
        obtain ⟨c8, h9⟩ := gd_some h6
        refine awp_reg [] [1, 4, 10, 11, 12] 2 ⟨30, [(1, .ref 0 0), (4, .ref 1 0), (10, sL 9 c_TTranslation a0.fNAT), (11, .int .i64 (a0.fNAT.length : Int)), (12, .int .i64 p1)], [.box (c_TRouter a0), .box (c_TTranslation (a0.fNAT.getD p1.toNat default))]⟩ [decide (0 ≤ p1), decide (p1 < (a0.fNAT.length : Int))] [] (by kernel_rfl) c8 trivial ?_
        refine then_n ?_
        refine awp_seq ?_
        refine awp_seq ?_
        obtain ⟨r3, q10, h11⟩ := bind_some h9
        refine awp_reg [.pure (.bool r3)] [1, 4, 10, 11, 12, 18] 2 ⟨30, [(1, .ref 0 0), (4, .ref 1 0), (10, sL 9 c_TTranslation a0.fNAT), (11, .int .i64 (a0.fNAT.length : Int)), (12, .int .i64 p1), (18, .bool (!r3))], [.box (c_TRouter a0), .box (c_TTranslation (a0.fNAT.getD p1.toNat default))]⟩ [] [⟨true, 91, [.agg (c_TTranslation (a0.fNAT.getD p1.toNat default))], .pure (.bool r3)⟩] (by kernel_rfl) nil_all ⟨fun _ => model_rightTranslation_ok (a0.fNAT.getD p1.toNat default) r3 q10, trivial⟩ ?_
        refine then_n ?_
        refine awp_cond (b := !r3) (by kernel_rfl) (fun b12 => ?_) (fun b12 => ?_)
        · have h13 := cond_t b12 h11
          refine awp_seq ?_
          refine awp_reg [] [2] 0 ⟨30, [(2, .int .i64 1)], []⟩ [] [] (by kernel_rfl) nil_all trivial ?_
          refine then_n ?_
          refine awp_ret ?_
          refine then_r ?_
          refine inb_r ?_
          refine then_r ?_
          obtain rfl := Option.some.inj h13
          exact round_r ⟨rfl, ends_r (.int .i64 1) (by kernel_rfl) Sub.rfl⟩
        · have h14 := cond_f b12 h11
          refine awp_skip ?_
          refine then_n ?_
          refine awp_seq ?_
          obtain ⟨r4, q15, h16⟩ := bind_some h14
          refine awp_reg [.pure (.int .i64 r4)] [1, 10, 11, 12, 28] 1 ⟨30, [(1, .ref 0 0), (10, sL 9 c_TTranslation a0.fNAT), (11, .int .i64 (a0.fNAT.length : Int)), (12, .int .i64 p1), (28, .bool ((((a0.fNAT.getD p1.toNat default).fKind) == 2) && (decide (r4 < 0))))], [.box (c_TRouter a0)]⟩ [] [⟨((a0.fNAT.getD p1.toNat default).fKind) == 2, 21, [.agg (c_TRouter a0), .str ((a0.fNAT.getD p1.toNat default).fList)], .pure (.int .i64 r4)⟩] (by kernel_rfl) nil_all ⟨fun hg => model_ACL_ok a0 ((a0.fNAT.getD p1.toNat default).fList) r4 (gc_some q15 hg), trivial⟩ ?_
          refine then_n ?_
          refine awp_cond (b := (((a0.fNAT.getD p1.toNat default).fKind) == 2) && (decide (r4 < 0))) (by kernel_rfl) (fun b17 => ?_) (fun b17 => ?_)
          · have h18 := cond_t b17 h16
            refine awp_seq ?_
            refine awp_reg [] [2] 0 ⟨30, [(2, .int .i64 5)], []⟩ [] [] (by kernel_rfl) nil_all trivial ?_
            refine then_n ?_
            refine awp_ret ?_
            refine inb_r ?_
            refine then_r ?_
            obtain rfl := Option.some.inj h18
            exact round_r ⟨rfl, ends_r (.int .i64 5) (by kernel_rfl) Sub.rfl⟩
          · have h19 := cond_f b17 h16
            refine awp_skip ?_
            refine inb_n ?_
            refine then_n ?_
            refine awp_reg [] [1, 10, 11, 12] 1 ⟨30, [(1, .ref 0 0), (10, sL 9 c_TTranslation a0.fNAT), (11, .int .i64 (a0.fNAT.length : Int)), (12, .int .i64 (wr .i64 (p1 + 1)))], [.box (c_TRouter a0)]⟩ [] [] (by kernel_rfl) nil_all trivial ?_
            obtain rfl := Option.some.inj h19
            exact round_n (le_rfl)
      · have h7 := cond_f b5 h4
        refine awp_exit ?_
        refine then_e ?_
        obtain rfl := Option.some.inj h7
        exact round_e ⟨rfl, Le.trans (s' := ⟨30, [], [.box (c_TRouter a0)]⟩) (le_keep' [] (by kernel_rfl)) (le_cut (n := 0) (by kernel_rfl))⟩
    · intro e22 s23 o24
      rcases y5 with g6 | y7
      · have h25 := elim_l h21
        obtain ⟨rfl, l27⟩ := o24
        refine inb_here ?_
        refine then_le (s' := ⟨30, [], []⟩) (l27) ?_
        refine awp_seq ?_
        refine awp_reg [] [2] 0 ⟨30, [(2, .int .i64 0)], []⟩ [] [] (by kernel_rfl) nil_all trivial ?_
        refine then_n ?_
        refine awp_ret ?_
        obtain rfl := Option.some.inj h25
        exact ends_r (.int .i64 0) (by kernel_rfl) Sub.rfl
      · have h26 := elim_r h21
        obtain ⟨rfl, n28⟩ := o24
        refine inb_r ?_
        refine then_r ?_
        obtain rfl := Option.some.inj h26
        exact n28

/- netverify/model.checkFilters -/
noncomputable def M.model_checkFilters_l1 (a0 : TRouter) (p1 : Int) : Option (Int ⊕ (Unit ⊕ Int)) :=
  bif decide (p1 < (a0.fInterfaces.length : Int)) then (gd [decide (0 ≤ p1), decide (p1 < (a0.fInterfaces.length : Int))] ((gc (!strEq ((a0.fInterfaces.getD p1.toNat default).fIn) (⟨#[]⟩ : ByteArray)) (M.model_ACL a0 ((a0.fInterfaces.getD p1.toNat default).fIn))).bind fun r3 => (gc ((!((!strEq ((a0.fInterfaces.getD p1.toNat default).fIn) (⟨#[]⟩ : ByteArray)) && (decide (r3 < 0)))) && (!strEq ((a0.fInterfaces.getD p1.toNat default).fOut) (⟨#[]⟩ : ByteArray))) (M.model_ACL a0 ((a0.fInterfaces.getD p1.toNat default).fOut))).bind fun r4 => bif ((!strEq ((a0.fInterfaces.getD p1.toNat default).fIn) (⟨#[]⟩ : ByteArray)) && (decide (r3 < 0))) || ((!strEq ((a0.fInterfaces.getD p1.toNat default).fOut) (⟨#[]⟩ : ByteArray)) && (decide (r4 < 0))) then (some (.inr (.inr 5))) else (some (.inl (wr .i64 (p1 + 1)))))) else (some (.inr (.inl ())))
noncomputable def M.model_checkFilters (a0 : TRouter) : Option Int :=
  (loopM (M.model_checkFilters_l1 a0) 0).bind fun y5 => Sum.elim (fun g6 => some 0) (fun y7 => some y7) y5
theorem model_checkFilters_ok (a0 : TRouter) (r : Int) (h : M.model_checkFilters a0 = some r) : Fn Try.prog 67 [.agg (c_TRouter a0)] (.pure (.int .i64 r)) := by
  unfold M.model_checkFilters at h
  refine fn_pure Try.func67 rfl (by kernel_rfl) ?_
  refine awp_seq ?_
  refine awp_reg [] [1] 1 ⟨35, [(1, .ref 0 0)], [.box (c_TRouter a0)]⟩ [] [] (by kernel_rfl) nil_all trivial ?_
  refine then_n ?_
  refine awp_seq ?_
  refine awp_seq ?_
  refine awp_reg [] [1, 6, 7, 8] 1 ⟨35, [(1, .ref 0 0), (6, sL 12 c_TInterface a0.fInterfaces), (7, .int .i64 (a0.fInterfaces.length : Int)), (8, .int .i64 0)], [.box (c_TRouter a0)]⟩ [] [] (by kernel_rfl) nil_all trivial ?_
  refine then_n ?_
  refine awp_block ?_
  obtain ⟨y5, q14, h15⟩ := bind_some h
  refine awp_le (s' := ⟨35, [(1, .ref 0 0), (6, sL 12 c_TInterface a0.fInterfaces), (7, .int .i64 (a0.fInterfaces.length : Int)), (8, .int .i64 0)], [.box (c_TRouter a0)]⟩) (le_rfl) ?_
  refine awp_mono (awp_loop (f := M.model_checkFilters_l1 a0) (S := fun (p1 : Int) => ⟨35, [(1, .ref 0 0), (6, sL 12 c_TInterface a0.fInterfaces), (7, .int .i64 (a0.fInterfaces.length : Int)), (8, .int .i64 p1)], [.box (c_TRouter a0)]⟩) (O := (Sum.elim (fun z => OutE 0 (fun z => ⟨35, [], []⟩) z) (fun z => OutR Try.prog Try.f67 (.int .i64 z)))) ?_ (x := 0) (y := y5) (loopM_iter q14)) ?_
  · intro p1 y2 h1
    unfold M.model_checkFilters_l1 at h1
    refine awp_seq ?_
    refine awp_reg [] [1, 6, 7, 8, 9] 1 ⟨35, [(1, .ref 0 0), (6, sL 12 c_TInterface a0.fInterfaces), (7, .int .i64 (a0.fInterfaces.length : Int)), (8, .int .i64 p1), (9, .bool (decide (p1 < (a0.fInterfaces.length : Int))))], [.box (c_TRouter a0)]⟩ [] [] (by kernel_rfl) nil_all trivial ?_
    refine then_n ?_
    refine awp_seq ?_
    refine awp_cond (b := decide (p1 < (a0.fInterfaces.length : Int))) (by kernel_rfl) (fun b2 => ?_) (fun b2 => ?_)
    · have h3 := cond_t b2 h1
      refine awp_skip ?_
      refine then_n ?_
      refine awp_seq ?_
      refine awp_block ?_
      refine awp_seq ?_
      obtain ⟨c5, h6⟩ := gd_some h3
      refine awp_reg [] [1, 4, 6, 7, 8] 2 ⟨35, [(1, .ref 0 0), (4, .ref 1 0), (6, sL 12 c_TInterface a0.fInterfaces), (7, .int .i64 (a0.fInterfaces.length : Int)), (8, .int .i64 p1)], [.box (c_TRouter a0), .box (c_TInterface (a0.fInterfaces.getD p1.toNat default))]⟩ [decide (0 ≤ p1), decide (p1 < (a0.fInterfaces.length : Int))] [] (by kernel_rfl) c5 trivial ?_
      refine then_n ?_
      refine awp_seq ?_
      obtain ⟨r3, q7, h8⟩ := bind_some h6
      obtain ⟨r4, q9, h10⟩ := bind_some h8
      refine awp_reg [.pure (.int .i64 r3), .pure (.int .i64 r4)] [1, 6, 7, 8, 33] 1 ⟨35, [(1, .ref 0 0), (6, sL 12 c_TInterface a0.fInterfaces), (7, .int .i64 (a0.fInterfaces.length : Int)), (8, .int .i64 p1), (33, .bool (((!strEq ((a0.fInterfaces.getD p1.toNat default).fIn) (⟨#[]⟩ : ByteArray)) && (decide (r3 < 0))) || ((!strEq ((a0.fInterfaces.getD p1.toNat default).fOut) (⟨#[]⟩ : ByteArray)) && (decide (r4 < 0)))))], [.box (c_TRouter a0)]⟩ [] [⟨!strEq ((a0.fInterfaces.getD p1.toNat default).fIn) (⟨#[]⟩ : ByteArray), 21, [.agg (c_TRouter a0), .str ((a0.fInterfaces.getD p1.toNat default).fIn)], .pure (.int .i64 r3)⟩, ⟨((!((!strEq ((a0.fInterfaces.getD p1.toNat default).fIn) (⟨#[]⟩ : ByteArray)) && (decide (r3 < 0)))) && (!strEq ((a0.fInterfaces.getD p1.toNat default).fOut) (⟨#[]⟩ : ByteArray))), 21, [.agg (c_TRouter a0), .str ((a0.fInterfaces.getD p1.toNat default).fOut)], .pure (.int .i64 r4)⟩] (by kernel_rfl) nil_all ⟨fun hg => model_ACL_ok a0 ((a0.fInterfaces.getD p1.toNat default).fIn) r3 (gc_some q7 hg), fun hg => model_ACL_ok a0 ((a0.fInterfaces.getD p1.toNat default).fOut) r4 (gc_some q9 hg), trivial⟩ ?_
      refine then_n ?_
      refine awp_cond (b := ((!strEq ((a0.fInterfaces.getD p1.toNat default).fIn) (⟨#[]⟩ : ByteArray)) && (decide (r3 < 0))) || ((!strEq ((a0.fInterfaces.getD p1.toNat default).fOut) (⟨#[]⟩ : ByteArray)) && (decide (r4 < 0)))) (by kernel_rfl) (fun b11 => ?_) (fun b11 => ?_)
      · have h12 := cond_t b11 h10
        refine awp_seq ?_
        refine awp_reg [] [2] 0 ⟨35, [(2, .int .i64 5)], []⟩ [] [] (by kernel_rfl) nil_all trivial ?_
        refine then_n ?_
        refine awp_ret ?_
        refine inb_r ?_
        refine then_r ?_
        obtain rfl := Option.some.inj h12
        exact round_r ⟨rfl, ends_r (.int .i64 5) (by kernel_rfl) Sub.rfl⟩
      · have h13 := cond_f b11 h10
        refine awp_skip ?_
        refine inb_n ?_
        refine then_n ?_
        refine awp_reg [] [1, 6, 7, 8] 1 ⟨35, [(1, .ref 0 0), (6, sL 12 c_TInterface a0.fInterfaces), (7, .int .i64 (a0.fInterfaces.length : Int)), (8, .int .i64 (wr .i64 (p1 + 1)))], [.box (c_TRouter a0)]⟩ [] [] (by kernel_rfl) nil_all trivial ?_
        obtain rfl := Option.some.inj h13
        exact round_n (le_rfl)
    · have h4 := cond_f b2 h1
      refine awp_exit ?_
      refine then_e ?_
      obtain rfl := Option.some.inj h4
      exact round_e ⟨rfl, Le.trans (s' := ⟨35, [], [.box (c_TRouter a0)]⟩) (le_keep' [] (by kernel_rfl)) (le_cut (n := 0) (by kernel_rfl))⟩
  · intro e16 s17 o18
    rcases y5 with g6 | y7
    · have h19 := elim_l h15
      obtain ⟨rfl, l21⟩ := o18
      refine inb_here ?_
      refine then_le (s' := ⟨35, [], []⟩) (l21) ?_
      refine awp_seq ?_
      refine awp_reg [] [2] 0 ⟨35, [(2, .int .i64 0)], []⟩ [] [] (by kernel_rfl) nil_all trivial ?_
      refine then_n ?_
      refine awp_ret ?_
      obtain rfl := Option.some.inj h19
      exact ends_r (.int .i64 0) (by kernel_rfl) Sub.rfl
    · have h20 := elim_r h15
      obtain ⟨rfl, n22⟩ := o18
      refine inb_r ?_
      refine then_r ?_
      obtain rfl := Option.some.inj h20
      exact n22

/- netverify/model.rightStatic -/
noncomputable def M.model_rightStatic_k1 (p1 : Int × Int) (p3 : Int) : Option ((Int × Int) ⊕ Int) :=
  some (.inl (p3, wr .i64 (p1.2 + 1)))
noncomputable def M.model_rightStatic_l1 (a1 : TStaticRoute) (p1 : Int × Int) : Option ((Int × Int) ⊕ Int) :=
  bif decide (p1.2 < 3) then (gd [decide (0 ≤ p1.2), decide (p1.2 < (([a1.fNext != 0, !strEq a1.fIface (⟨#[]⟩ : ByteArray), a1.fDiscard] : List Bool).length : Int))] (bif ([a1.fNext != 0, !strEq a1.fIface (⟨#[]⟩ : ByteArray), a1.fDiscard] : List Bool).getD p1.2.toNat default then (M.model_rightStatic_k1 p1 (wr .i64 (p1.1 + 1))) else (M.model_rightStatic_k1 p1 p1.1))) else (some (.inr p1.1))
noncomputable def M.model_rightStatic (a0 : TRouter) (a1 : TStaticRoute) : Option Bool :=
  (loopM (M.model_rightStatic_l1 a1) (0, 0)).bind fun y4 => (M.addr_Valid a1.fPrefix).bind fun r5 => (gc ((r5 && (y4 == 1)) && !(a1.fNext == 0)) (M.model_Address a0 a1.fNext)).bind fun r6 => (gc ((r5 && (y4 == 1)) && ((a1.fNext == 0) || (decide (r6 < 0)))) (M.model_within a1.fAdmin 1 255)).bind fun r7 => (gc (((r5 && (y4 == 1)) && ((a1.fNext == 0) || (decide (r6 < 0)))) && r7) (M.model_within a1.fTag 0 65535)).bind fun r8 => some ((((r5 && (y4 == 1)) && ((a1.fNext == 0) || (decide (r6 < 0)))) && r7) && r8)
theorem model_rightStatic_ok (a0 : TRouter) (a1 : TStaticRoute) (r : Bool) (h : M.model_rightStatic a0 a1 = some r) : Fn Try.prog 92 [.agg (c_TRouter a0), .agg (c_TStaticRoute a1)] (.pure (.bool r)) := by
  unfold M.model_rightStatic at h
  refine fn_pure Try.func92 rfl (by kernel_rfl) ?_
  refine awp_seq ?_
  refine awp_reg [] [2, 3] 2 ⟨55, [(2, .ref 0 0), (3, .ref 1 0)], [.box (c_TRouter a0), .box (c_TStaticRoute a1)]⟩ [] [] (by kernel_rfl) nil_all trivial ?_
  refine then_n ?_
  refine awp_seq ?_
  refine awp_reg [] [2, 3, 5] 2 ⟨55, [(2, .ref 0 0), (3, .ref 1 0), (5, .int .i64 0)], [.box (c_TRouter a0), .box (c_TStaticRoute a1)]⟩ [] [] (by kernel_rfl) nil_all trivial ?_
  refine then_n ?_
  refine awp_seq ?_
  refine awp_seq ?_
  refine awp_reg [] [2, 3, 5, 16, 17, 18] 2 ⟨55, [(2, .ref 0 0), (3, .ref 1 0), (5, .int .i64 0), (16, .sl true 1 3 (fun i => List.take 1 (List.drop (i * 1) [.bool (a1.fNext != 0), .bool (!strEq a1.fIface (⟨#[]⟩ : ByteArray)), .bool a1.fDiscard]))), (17, .int .i64 3), (18, .int .i64 0)], [.box (c_TRouter a0), .box (c_TStaticRoute a1)]⟩ [] [] (by kernel_rfl) nil_all trivial ?_
  refine then_le (s' := ⟨55, [(2, .ref 0 0), (3, .ref 1 0), (5, .int .i64 0), (16, sL 1 cb ([a1.fNext != 0, !strEq a1.fIface (⟨#[]⟩ : ByteArray), a1.fDiscard] : List Bool)), (17, .int .i64 3), (18, .int .i64 0)], [.box (c_TRouter a0), .box (c_TStaticRoute a1)]⟩) (le_sub (.cons Sub.rfl (.cons Sub.rfl (.cons Sub.rfl (.cons (sub_sl rfl (fun i hi => match i, hi with | 0, _ => rfl | 1, _ => rfl | 2, _ => rfl | n + 3, h => absurd h (by omega))) (.cons Sub.rfl (.cons Sub.rfl .nil)))))) (.cons .rfl (.cons .rfl .nil))) ?_
  refine awp_block ?_
  obtain ⟨y4, q12, h13⟩ := bind_some h
  refine awp_le (s' := ⟨55, [(2, .ref 0 0), (3, .ref 1 0), (5, .int .i64 0), (16, sL 1 cb ([a1.fNext != 0, !strEq a1.fIface (⟨#[]⟩ : ByteArray), a1.fDiscard] : List Bool)), (17, .int .i64 3), (18, .int .i64 0)], [.box (c_TRouter a0), .box (c_TStaticRoute a1)]⟩) (le_rfl) ?_
  refine awp_mono (awp_loop (f := M.model_rightStatic_l1 a1) (S := fun (p1 : Int × Int) => ⟨55, [(2, .ref 0 0), (3, .ref 1 0), (5, .int .i64 p1.1), (16, sL 1 cb ([a1.fNext != 0, !strEq a1.fIface (⟨#[]⟩ : ByteArray), a1.fDiscard] : List Bool)), (17, .int .i64 3), (18, .int .i64 p1.2)], [.box (c_TRouter a0), .box (c_TStaticRoute a1)]⟩) (O := (fun z => OutE 0 (fun z => ⟨55, [(2, .ref 0 0), (3, .ref 1 0), (5, .int .i64 z)], [.box (c_TRouter a0), .box (c_TStaticRoute a1)]⟩) z)) ?_ (x := (0, 0)) (y := y4) (loopM_iter q12)) ?_
  · intro p1 y2 h1
    unfold M.model_rightStatic_l1 at h1
    refine awp_seq ?_
    refine awp_reg [] [2, 3, 5, 16, 17, 18, 19] 2 ⟨55, [(2, .ref 0 0), (3, .ref 1 0), (5, .int .i64 p1.1), (16, sL 1 cb ([a1.fNext != 0, !strEq a1.fIface (⟨#[]⟩ : ByteArray), a1.fDiscard] : List Bool)), (17, .int .i64 3), (18, .int .i64 p1.2), (19, .bool (decide (p1.2 < 3)))], [.box (c_TRouter a0), .box (c_TStaticRoute a1)]⟩ [] [] (by kernel_rfl) nil_all trivial ?_
    refine then_n ?_
    refine awp_seq ?_
    refine awp_cond (b := decide (p1.2 < 3)) (by kernel_rfl) (fun b2 => ?_) (fun b2 => ?_)
    · have h3 := cond_t b2 h1
      refine awp_skip ?_
      refine then_n ?_
      refine awp_join (fun (p3 : Int) => ⟨55, [(2, .ref 0 0), (3, .ref 1 0), (5, .int .i64 p3), (16, sL 1 cb ([a1.fNext != 0, !strEq a1.fIface (⟨#[]⟩ : ByteArray), a1.fDiscard] : List Bool)), (17, .int .i64 3), (18, .int .i64 p1.2)], [.box (c_TRouter a0), .box (c_TStaticRoute a1)]⟩) (fun p3 => M.model_rightStatic_k1 p1 p3 = some y2) ?_ ?_
      · intro p3 h6
        unfold M.model_rightStatic_k1 at h6
        refine awp_reg [] [2, 3, 5, 16, 17, 18] 2 ⟨55, [(2, .ref 0 0), (3, .ref 1 0), (5, .int .i64 p3), (16, sL 1 cb ([a1.fNext != 0, !strEq a1.fIface (⟨#[]⟩ : ByteArray), a1.fDiscard] : List Bool)), (17, .int .i64 3), (18, .int .i64 (wr .i64 (p1.2 + 1)))], [.box (c_TRouter a0), .box (c_TStaticRoute a1)]⟩ [] [] (by kernel_rfl) nil_all trivial ?_
        obtain rfl := Option.some.inj h6
        exact round_n (le_rfl)
      · intro k5
        refine awp_block ?_
        refine awp_seq ?_
        obtain ⟨c7, h8⟩ := gd_some h3
        refine awp_reg [] [2, 3, 5, 7, 16, 17, 18] 2 ⟨55, [(2, .ref 0 0), (3, .ref 1 0), (5, .int .i64 p1.1), (7, .bool (([a1.fNext != 0, !strEq a1.fIface (⟨#[]⟩ : ByteArray), a1.fDiscard] : List Bool).getD p1.2.toNat default)), (16, sL 1 cb ([a1.fNext != 0, !strEq a1.fIface (⟨#[]⟩ : ByteArray), a1.fDiscard] : List Bool)), (17, .int .i64 3), (18, .int .i64 p1.2)], [.box (c_TRouter a0), .box (c_TStaticRoute a1)]⟩ [decide (0 ≤ p1.2), decide (p1.2 < (([a1.fNext != 0, !strEq a1.fIface (⟨#[]⟩ : ByteArray), a1.fDiscard] : List Bool).length : Int))] [] (by kernel_rfl) c7 trivial ?_
        refine then_n ?_
        refine awp_seq ?_
        refine awp_reg [] [2, 3, 5, 16, 17, 18, 22] 2 ⟨55, [(2, .ref 0 0), (3, .ref 1 0), (5, .int .i64 p1.1), (16, sL 1 cb ([a1.fNext != 0, !strEq a1.fIface (⟨#[]⟩ : ByteArray), a1.fDiscard] : List Bool)), (17, .int .i64 3), (18, .int .i64 p1.2), (22, .bool (([a1.fNext != 0, !strEq a1.fIface (⟨#[]⟩ : ByteArray), a1.fDiscard] : List Bool).getD p1.2.toNat default))], [.box (c_TRouter a0), .box (c_TStaticRoute a1)]⟩ [] [] (by kernel_rfl) nil_all trivial ?_
        refine then_n ?_
        refine awp_cond (b := ([a1.fNext != 0, !strEq a1.fIface (⟨#[]⟩ : ByteArray), a1.fDiscard] : List Bool).getD p1.2.toNat default) (by kernel_rfl) (fun b9 => ?_) (fun b9 => ?_)
        · have h10 := cond_t b9 h8
          refine awp_reg [] [2, 3, 5, 16, 17, 18] 2 ⟨55, [(2, .ref 0 0), (3, .ref 1 0), (5, .int .i64 (wr .i64 (p1.1 + 1))), (16, sL 1 cb ([a1.fNext != 0, !strEq a1.fIface (⟨#[]⟩ : ByteArray), a1.fDiscard] : List Bool)), (17, .int .i64 3), (18, .int .i64 p1.2)], [.box (c_TRouter a0), .box (c_TStaticRoute a1)]⟩ [] [] (by kernel_rfl) nil_all trivial ?_
          refine inb_n ?_
          exact then_le (le_rfl) (k5 (wr .i64 (p1.1 + 1)) h10)
        · have h11 := cond_f b9 h8
          refine awp_skip ?_
          refine inb_n ?_
          exact then_le (le_keep' [2, 3, 5, 16, 17, 18] (by kernel_rfl)) (k5 p1.1 h11)
    · have h4 := cond_f b2 h1
      refine awp_exit ?_
      refine then_e ?_
      obtain rfl := Option.some.inj h4
      exact round_e ⟨rfl, le_keep' [2, 3, 5] (by kernel_rfl)⟩
  · intro e14 s15 o16
    obtain ⟨rfl, l17⟩ := o16
    refine inb_here ?_
    refine then_le (s' := ⟨55, [(2, .ref 0 0), (3, .ref 1 0), (5, .int .i64 y4)], [.box (c_TRouter a0), .box (c_TStaticRoute a1)]⟩) (l17) ?_
    refine awp_seq ?_
    obtain ⟨r5, q18, h19⟩ := bind_some h13
    obtain ⟨r6, q20, h21⟩ := bind_some h19
    obtain ⟨r7, q22, h23⟩ := bind_some h21
    obtain ⟨r8, q24, h25⟩ := bind_some h23
    refine awp_reg [.pure (.bool r5), .pure (.int .i64 r6), .pure (.bool r7), .pure (.bool r8)] [4] 0 ⟨55, [(4, .bool ((((r5 && (y4 == 1)) && ((a1.fNext == 0) || (decide (r6 < 0)))) && r7) && r8))], []⟩ [] [⟨true, 88, [.agg (c_TPrefix a1.fPrefix)], .pure (.bool r5)⟩, ⟨((r5 && (y4 == 1)) && !(a1.fNext == 0)), 23, [.agg (c_TRouter a0), .int .u32 a1.fNext], .pure (.int .i64 r6)⟩, ⟨(r5 && (y4 == 1)) && ((a1.fNext == 0) || (decide (r6 < 0))), 61, [.int .i64 a1.fAdmin, .int .i64 1, .int .i64 255], .pure (.bool r7)⟩, ⟨((r5 && (y4 == 1)) && ((a1.fNext == 0) || (decide (r6 < 0)))) && r7, 61, [.int .i64 a1.fTag, .int .i64 0, .int .i64 65535], .pure (.bool r8)⟩] (by kernel_rfl) nil_all ⟨fun _ => addr_Valid_ok a1.fPrefix r5 q18, fun hg => model_Address_ok a0 a1.fNext r6 (gc_some q20 hg), fun hg => model_within_ok a1.fAdmin 1 255 r7 (gc_some q22 hg), fun hg => model_within_ok a1.fTag 0 65535 r8 (gc_some q24 hg), trivial⟩ ?_
    refine then_n ?_
    refine awp_ret ?_
    obtain rfl := Option.some.inj h25
    exact ends_r (.bool ((((r5 && (y4 == 1)) && ((a1.fNext == 0) || (decide (r6 < 0)))) && r7) && r8)) (by kernel_rfl) Sub.rfl

/- netverify/model.checkStatics -/
noncomputable def M.model_checkStatics_l2 (a0 : TRouter) (p1 : Int) (p5 : Int) : Option (Int ⊕ (Unit ⊕ Int)) :=
  bif decide (p5 < (p1.toNat - 0 : Int)) then (gd [decide (0 ≤ p5), decide (p5 < (((a0.fStatics.drop 0).take (p1.toNat - 0)).length : Int))] (bif (((((((a0.fStatics.drop 0).take (p1.toNat - 0)).getD p5.toNat default).fPrefix).fAddr) == (((a0.fStatics.getD p1.toNat default).fPrefix).fAddr)) && (((((((a0.fStatics.drop 0).take (p1.toNat - 0)).getD p5.toNat default).fPrefix).fLen) == (((a0.fStatics.getD p1.toNat default).fPrefix).fLen)) && true)) && (((((a0.fStatics.drop 0).take (p1.toNat - 0)).getD p5.toNat default).fAdmin) == ((a0.fStatics.getD p1.toNat default).fAdmin)) then (some (.inr (.inr 6))) else (some (.inl (wr .i64 (p5 + 1)))))) else (some (.inr (.inl ())))
noncomputable def M.model_checkStatics_k1 (a0 : TRouter) (p1 : Int) (p4 : Unit) : Option (Int ⊕ (Unit ⊕ Int)) :=
  gd [decide (0 ≤ p1), decide (p1 ≤ (a0.fStatics.length : Int))] ((loopM (M.model_checkStatics_l2 a0 p1) 0).bind fun y7 => Sum.elim (fun g8 => some (.inl (wr .i64 (p1 + 1)))) (fun y9 => some (.inr (.inr y9))) y7)
noncomputable def M.model_checkStatics_l1 (a0 : TRouter) (p1 : Int) : Option (Int ⊕ (Unit ⊕ Int)) :=
  bif decide (p1 < (a0.fStatics.length : Int)) then (gd [decide (0 ≤ p1), decide (p1 < (a0.fStatics.length : Int))] ((M.model_rightStatic a0 (⟨((a0.fStatics.getD p1.toNat default).fPrefix), (a0.fStatics.getD p1.toNat default).fNext, (a0.fStatics.getD p1.toNat default).fIface, (a0.fStatics.getD p1.toNat default).fDiscard, (a0.fStatics.getD p1.toNat default).fAdmin, (a0.fStatics.getD p1.toNat default).fTag⟩ : TStaticRoute)).bind fun r3 => bif !r3 then (some (.inr (.inr 1))) else (bif !strEq ((a0.fStatics.getD p1.toNat default).fIface) (⟨#[]⟩ : ByteArray) then ((M.model_Interface a0 ((a0.fStatics.getD p1.toNat default).fIface)).bind fun r10 => bif decide (r10 < 0) then (some (.inr (.inr 5))) else (gd [decide (0 ≤ r10), decide (r10 < (a0.fInterfaces.length : Int))] (bif ((a0.fInterfaces.getD r10.toNat default).fLen) == 0 then (some (.inr (.inr 1))) else (M.model_checkStatics_k1 a0 p1 ())))) else (M.model_checkStatics_k1 a0 p1 ())))) else (some (.inr (.inl ())))
noncomputable def M.model_checkStatics (a0 : TRouter) : Option Int :=
  bif decide ((a0.fStatics.length : Int) > 16) then (some 7) else ((loopM (M.model_checkStatics_l1 a0) 0).bind fun y11 => Sum.elim (fun g12 => some 0) (fun y13 => some y13) y11)
theorem model_checkStatics_ok (a0 : TRouter) (r : Int) (h : M.model_checkStatics a0 = some r) : Fn Try.prog 68 [.agg (c_TRouter a0)] (.pure (.int .i64 r)) := by
  unfold M.model_checkStatics at h
  refine fn_pure Try.func68 rfl (by kernel_rfl) ?_
  refine awp_seq ?_
  refine awp_reg [] [1] 1 ⟨63, [(1, .ref 0 0)], [.box (c_TRouter a0)]⟩ [] [] (by kernel_rfl) nil_all trivial ?_
  refine then_n ?_
  refine awp_seq ?_
  refine awp_seq ?_
  refine awp_reg [] [1, 11] 1 ⟨63, [(1, .ref 0 0), (11, .bool (decide ((a0.fStatics.length : Int) > 16)))], [.box (c_TRouter a0)]⟩ [] [] (by kernel_rfl) nil_all trivial ?_
  refine then_n ?_
  refine awp_cond (b := decide ((a0.fStatics.length : Int) > 16)) (by kernel_rfl) (fun b1 => ?_) (fun b1 => ?_)
  · have h2 := cond_t b1 h
    refine awp_seq ?_
    refine awp_reg [] [2] 0 ⟨63, [(2, .int .i64 7)], []⟩ [] [] (by kernel_rfl) nil_all trivial ?_
    refine then_n ?_
    refine awp_ret ?_
    refine then_r ?_
    obtain rfl := Option.some.inj h2
    exact ends_r (.int .i64 7) (by kernel_rfl) Sub.rfl
  · have h3 := cond_f b1 h
    refine awp_skip ?_
    refine then_n ?_
    refine awp_seq ?_
    refine awp_seq ?_
    refine awp_reg [] [1, 13, 14, 15] 1 ⟨63, [(1, .ref 0 0), (13, sL 7 c_TStaticRoute a0.fStatics), (14, .int .i64 (a0.fStatics.length : Int)), (15, .int .i64 0)], [.box (c_TRouter a0)]⟩ [] [] (by kernel_rfl) nil_all trivial ?_
    refine then_n ?_
    refine awp_block ?_
    obtain ⟨y11, q50, h51⟩ := bind_some h3
    refine awp_le (s' := ⟨63, [(1, .ref 0 0), (13, sL 7 c_TStaticRoute a0.fStatics), (14, .int .i64 (a0.fStatics.length : Int)), (15, .int .i64 0)], [.box (c_TRouter a0)]⟩) (le_rfl) ?_
    refine awp_mono (awp_loop (f := M.model_checkStatics_l1 a0) (S := fun (p1 : Int) => ⟨63, [(1, .ref 0 0), (13, sL 7 c_TStaticRoute a0.fStatics), (14, .int .i64 (a0.fStatics.length : Int)), (15, .int .i64 p1)], [.box (c_TRouter a0)]⟩) (O := (Sum.elim (fun z => OutE 0 (fun z => ⟨63, [], []⟩) z) (fun z => OutR Try.prog Try.f68 (.int .i64 z)))) ?_ (x := 0) (y := y11) (loopM_iter q50)) ?_
    · intro p1 y2 h4
      unfold M.model_checkStatics_l1 at h4
      refine awp_seq ?_
      refine awp_reg [] [1, 13, 14, 15, 16] 1 ⟨63, [(1, .ref 0 0), (13, sL 7 c_TStaticRoute a0.fStatics), (14, .int .i64 (a0.fStatics.length : Int)), (15, .int .i64 p1), (16, .bool (decide (p1 < (a0.fStatics.length : Int))))], [.box (c_TRouter a0)]⟩ [] [] (by kernel_rfl) nil_all trivial ?_
      refine then_n ?_
      refine awp_seq ?_
      refine awp_cond (b := decide (p1 < (a0.fStatics.length : Int))) (by kernel_rfl) (fun b5 => ?_) (fun b5 => ?_)
      · have h6 := cond_t b5 h4
        refine awp_skip ?_
        refine then_n ?_
        refine awp_seq ?_
        refine awp_block ?_
        refine awp_seq ?_
        obtain ⟨c8, h9⟩ := gd_some h6
        refine awp_reg [] [1, 3, 4, 13, 14, 15] 2 ⟨63, [(1, .ref 0 0), (3, .int .i64 p1), (4, .ref 1 0), (13, sL 7 c_TStaticRoute a0.fStatics), (14, .int .i64 (a0.fStatics.length : Int)), (15, .int .i64 p1)], [.box (c_TRouter a0), .box [.int .u32 (((a0.fStatics.getD p1.toNat default).fPrefix).fAddr), .int .i64 (((a0.fStatics.getD p1.toNat default).fPrefix).fLen), .int .u32 ((a0.fStatics.getD p1.toNat default).fNext), .str ((a0.fStatics.getD p1.toNat default).fIface), .bool ((a0.fStatics.getD p1.toNat default).fDiscard), .int .i64 ((a0.fStatics.getD p1.toNat default).fAdmin), .int .i64 ((a0.fStatics.getD p1.toNat default).fTag)]]⟩ [decide (0 ≤ p1), decide (p1 < (a0.fStatics.length : Int))] [] (by kernel_rfl) c8 trivial ?_
        refine then_n ?_
        refine awp_seq ?_
        refine awp_seq ?_
        obtain ⟨r3, q10, h11⟩ := bind_some h9
        refine awp_reg [.pure (.bool r3)] [1, 3, 4, 13, 14, 15, 23] 2 ⟨63, [(1, .ref 0 0), (3, .int .i64 p1), (4, .ref 1 0), (13, sL 7 c_TStaticRoute a0.fStatics), (14, .int .i64 (a0.fStatics.length : Int)), (15, .int .i64 p1), (23, .bool (!r3))], [.box (c_TRouter a0), .box [.int .u32 (((a0.fStatics.getD p1.toNat default).fPrefix).fAddr), .int .i64 (((a0.fStatics.getD p1.toNat default).fPrefix).fLen), .int .u32 ((a0.fStatics.getD p1.toNat default).fNext), .str ((a0.fStatics.getD p1.toNat default).fIface), .bool ((a0.fStatics.getD p1.toNat default).fDiscard), .int .i64 ((a0.fStatics.getD p1.toNat default).fAdmin), .int .i64 ((a0.fStatics.getD p1.toNat default).fTag)]]⟩ [] [⟨true, 92, [.agg (c_TRouter a0), .agg [.int .u32 (((a0.fStatics.getD p1.toNat default).fPrefix).fAddr), .int .i64 (((a0.fStatics.getD p1.toNat default).fPrefix).fLen), .int .u32 ((a0.fStatics.getD p1.toNat default).fNext), .str ((a0.fStatics.getD p1.toNat default).fIface), .bool ((a0.fStatics.getD p1.toNat default).fDiscard), .int .i64 ((a0.fStatics.getD p1.toNat default).fAdmin), .int .i64 ((a0.fStatics.getD p1.toNat default).fTag)]], .pure (.bool r3)⟩] (by kernel_rfl) nil_all ⟨fun _ => model_rightStatic_ok a0 (⟨((a0.fStatics.getD p1.toNat default).fPrefix), (a0.fStatics.getD p1.toNat default).fNext, (a0.fStatics.getD p1.toNat default).fIface, (a0.fStatics.getD p1.toNat default).fDiscard, (a0.fStatics.getD p1.toNat default).fAdmin, (a0.fStatics.getD p1.toNat default).fTag⟩ : TStaticRoute) r3 q10, trivial⟩ ?_
        refine then_n ?_
        refine awp_cond (b := !r3) (by kernel_rfl) (fun b12 => ?_) (fun b12 => ?_)
        · have h13 := cond_t b12 h11
          refine awp_seq ?_
          refine awp_reg [] [2] 0 ⟨63, [(2, .int .i64 1)], []⟩ [] [] (by kernel_rfl) nil_all trivial ?_
          refine then_n ?_
          refine awp_ret ?_
          refine then_r ?_
          refine inb_r ?_
          refine then_r ?_
          obtain rfl := Option.some.inj h13
          exact round_r ⟨rfl, ends_r (.int .i64 1) (by kernel_rfl) Sub.rfl⟩
        · have h14 := cond_f b12 h11
          refine awp_skip ?_
          refine then_n ?_
          refine awp_join (fun (p4 : Unit) => ⟨63, [(1, .ref 0 0), (3, .int .i64 p1), (4, .ref 1 0), (13, sL 7 c_TStaticRoute a0.fStatics), (14, .int .i64 (a0.fStatics.length : Int)), (15, .int .i64 p1)], [.box (c_TRouter a0), .box [.int .u32 (((a0.fStatics.getD p1.toNat default).fPrefix).fAddr), .int .i64 (((a0.fStatics.getD p1.toNat default).fPrefix).fLen), .int .u32 ((a0.fStatics.getD p1.toNat default).fNext), .str ((a0.fStatics.getD p1.toNat default).fIface), .bool ((a0.fStatics.getD p1.toNat default).fDiscard), .int .i64 ((a0.fStatics.getD p1.toNat default).fAdmin), .int .i64 ((a0.fStatics.getD p1.toNat default).fTag)]]⟩) (fun p4 => M.model_checkStatics_k1 a0 p1 p4 = some y2) ?_ ?_
          · intro p4 h16
            unfold M.model_checkStatics_k1 at h16
            refine awp_seq ?_
            obtain ⟨c17, h18⟩ := gd_some h16
            refine awp_reg [] [1, 4, 13, 14, 15, 43, 44, 45] 2 ⟨63, [(1, .ref 0 0), (4, .ref 1 0), (13, sL 7 c_TStaticRoute a0.fStatics), (14, .int .i64 (a0.fStatics.length : Int)), (15, .int .i64 p1), (43, .sl false 7 (p1.toNat - 0) (fun i => c_TStaticRoute (a0.fStatics.getD (0 + i) default))), (44, .int .i64 (p1.toNat - 0 : Int)), (45, .int .i64 0)], [.box (c_TRouter a0), .box [.int .u32 (((a0.fStatics.getD p1.toNat default).fPrefix).fAddr), .int .i64 (((a0.fStatics.getD p1.toNat default).fPrefix).fLen), .int .u32 ((a0.fStatics.getD p1.toNat default).fNext), .str ((a0.fStatics.getD p1.toNat default).fIface), .bool ((a0.fStatics.getD p1.toNat default).fDiscard), .int .i64 ((a0.fStatics.getD p1.toNat default).fAdmin), .int .i64 ((a0.fStatics.getD p1.toNat default).fTag)]]⟩ [decide (0 ≤ p1), decide (p1 ≤ (a0.fStatics.length : Int))] [] (by kernel_rfl) c17 trivial ?_
            refine then_le (s' := ⟨63, [(1, .ref 0 0), (4, .ref 1 0), (13, sL 7 c_TStaticRoute a0.fStatics), (14, .int .i64 (a0.fStatics.length : Int)), (15, .int .i64 p1), (43, sL 7 c_TStaticRoute ((a0.fStatics.drop 0).take (p1.toNat - 0))), (44, .int .i64 (p1.toNat - 0 : Int)), (45, .int .i64 0)], [.box (c_TRouter a0), .box [.int .u32 (((a0.fStatics.getD p1.toNat default).fPrefix).fAddr), .int .i64 (((a0.fStatics.getD p1.toNat default).fPrefix).fLen), .int .u32 ((a0.fStatics.getD p1.toNat default).fNext), .str ((a0.fStatics.getD p1.toNat default).fIface), .bool ((a0.fStatics.getD p1.toNat default).fDiscard), .int .i64 ((a0.fStatics.getD p1.toNat default).fAdmin), .int .i64 ((a0.fStatics.getD p1.toNat default).fTag)]]⟩) (le_sub (.cons Sub.rfl (.cons Sub.rfl (.cons Sub.rfl (.cons Sub.rfl (.cons Sub.rfl (.cons (sub_sl (len_cut _ _ _ (cut_hi (c17 _ (List.mem_cons_of_mem _ List.mem_cons_self)))) (cut_ext _ _ _ _)) (.cons Sub.rfl (.cons Sub.rfl .nil)))))))) (.cons .rfl (.cons .rfl .nil))) ?_
            refine awp_block ?_
            obtain ⟨y7, q28, h29⟩ := bind_some h18
            refine awp_le (s' := ⟨63, [(1, .ref 0 0), (4, .ref 1 0), (13, sL 7 c_TStaticRoute a0.fStatics), (14, .int .i64 (a0.fStatics.length : Int)), (15, .int .i64 p1), (43, sL 7 c_TStaticRoute ((a0.fStatics.drop 0).take (p1.toNat - 0))), (44, .int .i64 (p1.toNat - 0 : Int)), (45, .int .i64 0)], [.box (c_TRouter a0), .box [.int .u32 (((a0.fStatics.getD p1.toNat default).fPrefix).fAddr), .int .i64 (((a0.fStatics.getD p1.toNat default).fPrefix).fLen), .int .u32 ((a0.fStatics.getD p1.toNat default).fNext), .str ((a0.fStatics.getD p1.toNat default).fIface), .bool ((a0.fStatics.getD p1.toNat default).fDiscard), .int .i64 ((a0.fStatics.getD p1.toNat default).fAdmin), .int .i64 ((a0.fStatics.getD p1.toNat default).fTag)]]⟩) (le_rfl) ?_
            refine awp_mono (awp_loop (f := M.model_checkStatics_l2 a0 p1) (S := fun (p5 : Int) => ⟨63, [(1, .ref 0 0), (4, .ref 1 0), (13, sL 7 c_TStaticRoute a0.fStatics), (14, .int .i64 (a0.fStatics.length : Int)), (15, .int .i64 p1), (43, sL 7 c_TStaticRoute ((a0.fStatics.drop 0).take (p1.toNat - 0))), (44, .int .i64 (p1.toNat - 0 : Int)), (45, .int .i64 p5)], [.box (c_TRouter a0), .box [.int .u32 (((a0.fStatics.getD p1.toNat default).fPrefix).fAddr), .int .i64 (((a0.fStatics.getD p1.toNat default).fPrefix).fLen), .int .u32 ((a0.fStatics.getD p1.toNat default).fNext), .str ((a0.fStatics.getD p1.toNat default).fIface), .bool ((a0.fStatics.getD p1.toNat default).fDiscard), .int .i64 ((a0.fStatics.getD p1.toNat default).fAdmin), .int .i64 ((a0.fStatics.getD p1.toNat default).fTag)]]⟩) (O := (Sum.elim (fun z => OutE 2 (fun z => ⟨63, [(1, .ref 0 0), (13, sL 7 c_TStaticRoute a0.fStatics), (14, .int .i64 (a0.fStatics.length : Int)), (15, .int .i64 p1)], [.box (c_TRouter a0)]⟩) z) (fun z => OutR Try.prog Try.f68 (.int .i64 z)))) ?_ (x := 0) (y := y7) (loopM_iter q28)) ?_
            · intro p5 y6 h19
              unfold M.model_checkStatics_l2 at h19
              refine awp_seq ?_
              refine awp_reg [] [1, 4, 13, 14, 15, 43, 44, 45, 46] 2 ⟨63, [(1, .ref 0 0), (4, .ref 1 0), (13, sL 7 c_TStaticRoute a0.fStatics), (14, .int .i64 (a0.fStatics.length : Int)), (15, .int .i64 p1), (43, sL 7 c_TStaticRoute ((a0.fStatics.drop 0).take (p1.toNat - 0))), (44, .int .i64 (p1.toNat - 0 : Int)), (45, .int .i64 p5), (46, .bool (decide (p5 < (p1.toNat - 0 : Int))))], [.box (c_TRouter a0), .box [.int .u32 (((a0.fStatics.getD p1.toNat default).fPrefix).fAddr), .int .i64 (((a0.fStatics.getD p1.toNat default).fPrefix).fLen), .int .u32 ((a0.fStatics.getD p1.toNat default).fNext), .str ((a0.fStatics.getD p1.toNat default).fIface), .bool ((a0.fStatics.getD p1.toNat default).fDiscard), .int .i64 ((a0.fStatics.getD p1.toNat default).fAdmin), .int .i64 ((a0.fStatics.getD p1.toNat default).fTag)]]⟩ [] [] (by kernel_rfl) nil_all trivial ?_
              refine then_n ?_
              refine awp_seq ?_
              refine awp_cond (b := decide (p5 < (p1.toNat - 0 : Int))) (by kernel_rfl) (fun b20 => ?_) (fun b20 => ?_)
              · have h21 := cond_t b20 h19
                refine awp_skip ?_
                refine then_n ?_
                refine awp_seq ?_
                refine awp_block ?_
                refine awp_seq ?_
                obtain ⟨c23, h24⟩ := gd_some h21
                refine awp_reg [] [1, 4, 7, 13, 14, 15, 43, 44, 45] 3 ⟨63, [(1, .ref 0 0), (4, .ref 1 0), (7, .ref 2 0), (13, sL 7 c_TStaticRoute a0.fStatics), (14, .int .i64 (a0.fStatics.length : Int)), (15, .int .i64 p1), (43, sL 7 c_TStaticRoute ((a0.fStatics.drop 0).take (p1.toNat - 0))), (44, .int .i64 (p1.toNat - 0 : Int)), (45, .int .i64 p5)], [.box (c_TRouter a0), .box [.int .u32 (((a0.fStatics.getD p1.toNat default).fPrefix).fAddr), .int .i64 (((a0.fStatics.getD p1.toNat default).fPrefix).fLen), .int .u32 ((a0.fStatics.getD p1.toNat default).fNext), .str ((a0.fStatics.getD p1.toNat default).fIface), .bool ((a0.fStatics.getD p1.toNat default).fDiscard), .int .i64 ((a0.fStatics.getD p1.toNat default).fAdmin), .int .i64 ((a0.fStatics.getD p1.toNat default).fTag)], .box [.int .u32 (((((a0.fStatics.drop 0).take (p1.toNat - 0)).getD p5.toNat default).fPrefix).fAddr), .int .i64 (((((a0.fStatics.drop 0).take (p1.toNat - 0)).getD p5.toNat default).fPrefix).fLen), .int .u32 ((((a0.fStatics.drop 0).take (p1.toNat - 0)).getD p5.toNat default).fNext), .str ((((a0.fStatics.drop 0).take (p1.toNat - 0)).getD p5.toNat default).fIface), .bool ((((a0.fStatics.drop 0).take (p1.toNat - 0)).getD p5.toNat default).fDiscard), .int .i64 ((((a0.fStatics.drop 0).take (p1.toNat - 0)).getD p5.toNat default).fAdmin), .int .i64 ((((a0.fStatics.drop 0).take (p1.toNat - 0)).getD p5.toNat default).fTag)]]⟩ [decide (0 ≤ p5), decide (p5 < (((a0.fStatics.drop 0).take (p1.toNat - 0)).length : Int))] [] (by kernel_rfl) c23 trivial ?_
                refine then_n ?_
                refine awp_seq ?_
                refine awp_reg [] [1, 4, 13, 14, 15, 43, 44, 45, 60] 2 ⟨63, [(1, .ref 0 0), (4, .ref 1 0), (13, sL 7 c_TStaticRoute a0.fStatics), (14, .int .i64 (a0.fStatics.length : Int)), (15, .int .i64 p1), (43, sL 7 c_TStaticRoute ((a0.fStatics.drop 0).take (p1.toNat - 0))), (44, .int .i64 (p1.toNat - 0 : Int)), (45, .int .i64 p5), (60, .bool ((((((((a0.fStatics.drop 0).take (p1.toNat - 0)).getD p5.toNat default).fPrefix).fAddr) == (((a0.fStatics.getD p1.toNat default).fPrefix).fAddr)) && (((((((a0.fStatics.drop 0).take (p1.toNat - 0)).getD p5.toNat default).fPrefix).fLen) == (((a0.fStatics.getD p1.toNat default).fPrefix).fLen)) && true)) && (((((a0.fStatics.drop 0).take (p1.toNat - 0)).getD p5.toNat default).fAdmin) == ((a0.fStatics.getD p1.toNat default).fAdmin))))], [.box (c_TRouter a0), .box [.int .u32 (((a0.fStatics.getD p1.toNat default).fPrefix).fAddr), .int .i64 (((a0.fStatics.getD p1.toNat default).fPrefix).fLen), .int .u32 ((a0.fStatics.getD p1.toNat default).fNext), .str ((a0.fStatics.getD p1.toNat default).fIface), .bool ((a0.fStatics.getD p1.toNat default).fDiscard), .int .i64 ((a0.fStatics.getD p1.toNat default).fAdmin), .int .i64 ((a0.fStatics.getD p1.toNat default).fTag)]]⟩ [] [] (by kernel_rfl) nil_all trivial ?_
                refine then_n ?_
                refine awp_cond (b := (((((((a0.fStatics.drop 0).take (p1.toNat - 0)).getD p5.toNat default).fPrefix).fAddr) == (((a0.fStatics.getD p1.toNat default).fPrefix).fAddr)) && (((((((a0.fStatics.drop 0).take (p1.toNat - 0)).getD p5.toNat default).fPrefix).fLen) == (((a0.fStatics.getD p1.toNat default).fPrefix).fLen)) && true)) && (((((a0.fStatics.drop 0).take (p1.toNat - 0)).getD p5.toNat default).fAdmin) == ((a0.fStatics.getD p1.toNat default).fAdmin))) (by kernel_rfl) (fun b25 => ?_) (fun b25 => ?_)
                · have h26 := cond_t b25 h24
                  refine awp_seq ?_
                  refine awp_reg [] [2] 0 ⟨63, [(2, .int .i64 6)], []⟩ [] [] (by kernel_rfl) nil_all trivial ?_
                  refine then_n ?_
                  refine awp_ret ?_
                  refine inb_r ?_
                  refine then_r ?_
                  obtain rfl := Option.some.inj h26
                  exact round_r ⟨rfl, ends_r (.int .i64 6) (by kernel_rfl) Sub.rfl⟩
                · have h27 := cond_f b25 h24
                  refine awp_skip ?_
                  refine inb_n ?_
                  refine then_n ?_
                  refine awp_reg [] [1, 4, 13, 14, 15, 43, 44, 45] 2 ⟨63, [(1, .ref 0 0), (4, .ref 1 0), (13, sL 7 c_TStaticRoute a0.fStatics), (14, .int .i64 (a0.fStatics.length : Int)), (15, .int .i64 p1), (43, sL 7 c_TStaticRoute ((a0.fStatics.drop 0).take (p1.toNat - 0))), (44, .int .i64 (p1.toNat - 0 : Int)), (45, .int .i64 (wr .i64 (p5 + 1)))], [.box (c_TRouter a0), .box [.int .u32 (((a0.fStatics.getD p1.toNat default).fPrefix).fAddr), .int .i64 (((a0.fStatics.getD p1.toNat default).fPrefix).fLen), .int .u32 ((a0.fStatics.getD p1.toNat default).fNext), .str ((a0.fStatics.getD p1.toNat default).fIface), .bool ((a0.fStatics.getD p1.toNat default).fDiscard), .int .i64 ((a0.fStatics.getD p1.toNat default).fAdmin), .int .i64 ((a0.fStatics.getD p1.toNat default).fTag)]]⟩ [] [] (by kernel_rfl) nil_all trivial ?_
                  obtain rfl := Option.some.inj h27
                  exact round_n (le_rfl)
              · have h22 := cond_f b20 h19
                refine awp_exit ?_
                refine then_e ?_
                obtain rfl := Option.some.inj h22
                exact round_e ⟨rfl, Le.trans (s' := ⟨63, [(1, .ref 0 0), (13, sL 7 c_TStaticRoute a0.fStatics), (14, .int .i64 (a0.fStatics.length : Int)), (15, .int .i64 p1)], [.box (c_TRouter a0), .box [.int .u32 (((a0.fStatics.getD p1.toNat default).fPrefix).fAddr), .int .i64 (((a0.fStatics.getD p1.toNat default).fPrefix).fLen), .int .u32 ((a0.fStatics.getD p1.toNat default).fNext), .str ((a0.fStatics.getD p1.toNat default).fIface), .bool ((a0.fStatics.getD p1.toNat default).fDiscard), .int .i64 ((a0.fStatics.getD p1.toNat default).fAdmin), .int .i64 ((a0.fStatics.getD p1.toNat default).fTag)]]⟩) (le_keep' [1, 13, 14, 15] (by kernel_rfl)) (le_cut (n := 1) (by kernel_rfl))⟩
            · intro e30 s31 o32
              rcases y7 with g8 | y9
              · have h33 := elim_l h29
                obtain ⟨rfl, l35⟩ := o32
                refine inb_here ?_
                refine inb_n ?_
                refine then_le (s' := ⟨63, [(1, .ref 0 0), (13, sL 7 c_TStaticRoute a0.fStatics), (14, .int .i64 (a0.fStatics.length : Int)), (15, .int .i64 p1)], [.box (c_TRouter a0)]⟩) (l35) ?_
                refine awp_reg [] [1, 13, 14, 15] 1 ⟨63, [(1, .ref 0 0), (13, sL 7 c_TStaticRoute a0.fStatics), (14, .int .i64 (a0.fStatics.length : Int)), (15, .int .i64 (wr .i64 (p1 + 1)))], [.box (c_TRouter a0)]⟩ [] [] (by kernel_rfl) nil_all trivial ?_
                obtain rfl := Option.some.inj h33
                exact round_n (le_rfl)
              · have h34 := elim_r h29
                obtain ⟨rfl, n36⟩ := o32
                refine inb_r ?_
                refine inb_r ?_
                refine then_r ?_
                obtain rfl := Option.some.inj h34
                exact round_r ⟨rfl, n36⟩
          · intro k15
            refine awp_seq ?_
            refine awp_reg [] [1, 3, 4, 13, 14, 15, 26] 2 ⟨63, [(1, .ref 0 0), (3, .int .i64 p1), (4, .ref 1 0), (13, sL 7 c_TStaticRoute a0.fStatics), (14, .int .i64 (a0.fStatics.length : Int)), (15, .int .i64 p1), (26, .bool (!strEq ((a0.fStatics.getD p1.toNat default).fIface) (⟨#[]⟩ : ByteArray)))], [.box (c_TRouter a0), .box [.int .u32 (((a0.fStatics.getD p1.toNat default).fPrefix).fAddr), .int .i64 (((a0.fStatics.getD p1.toNat default).fPrefix).fLen), .int .u32 ((a0.fStatics.getD p1.toNat default).fNext), .str ((a0.fStatics.getD p1.toNat default).fIface), .bool ((a0.fStatics.getD p1.toNat default).fDiscard), .int .i64 ((a0.fStatics.getD p1.toNat default).fAdmin), .int .i64 ((a0.fStatics.getD p1.toNat default).fTag)]]⟩ [] [] (by kernel_rfl) nil_all trivial ?_
            refine then_n ?_
            refine awp_cond (b := !strEq ((a0.fStatics.getD p1.toNat default).fIface) (⟨#[]⟩ : ByteArray)) (by kernel_rfl) (fun b37 => ?_) (fun b37 => ?_)
            · have h38 := cond_t b37 h14
              refine awp_seq ?_
              obtain ⟨r10, q40, h41⟩ := bind_some h38
              refine awp_reg [.pure (.int .i64 r10)] [1, 3, 4, 5, 13, 14, 15] 2 ⟨63, [(1, .ref 0 0), (3, .int .i64 p1), (4, .ref 1 0), (5, .int .i64 r10), (13, sL 7 c_TStaticRoute a0.fStatics), (14, .int .i64 (a0.fStatics.length : Int)), (15, .int .i64 p1)], [.box (c_TRouter a0), .box [.int .u32 (((a0.fStatics.getD p1.toNat default).fPrefix).fAddr), .int .i64 (((a0.fStatics.getD p1.toNat default).fPrefix).fLen), .int .u32 ((a0.fStatics.getD p1.toNat default).fNext), .str ((a0.fStatics.getD p1.toNat default).fIface), .bool ((a0.fStatics.getD p1.toNat default).fDiscard), .int .i64 ((a0.fStatics.getD p1.toNat default).fAdmin), .int .i64 ((a0.fStatics.getD p1.toNat default).fTag)]]⟩ [] [⟨true, 15, [.agg (c_TRouter a0), .str ((a0.fStatics.getD p1.toNat default).fIface)], .pure (.int .i64 r10)⟩] (by kernel_rfl) nil_all ⟨fun _ => model_Interface_ok a0 ((a0.fStatics.getD p1.toNat default).fIface) r10 q40, trivial⟩ ?_
              refine then_n ?_
              refine awp_seq ?_
              refine awp_seq ?_
              refine awp_reg [] [1, 3, 4, 5, 13, 14, 15, 32] 2 ⟨63, [(1, .ref 0 0), (3, .int .i64 p1), (4, .ref 1 0), (5, .int .i64 r10), (13, sL 7 c_TStaticRoute a0.fStatics), (14, .int .i64 (a0.fStatics.length : Int)), (15, .int .i64 p1), (32, .bool (decide (r10 < 0)))], [.box (c_TRouter a0), .box [.int .u32 (((a0.fStatics.getD p1.toNat default).fPrefix).fAddr), .int .i64 (((a0.fStatics.getD p1.toNat default).fPrefix).fLen), .int .u32 ((a0.fStatics.getD p1.toNat default).fNext), .str ((a0.fStatics.getD p1.toNat default).fIface), .bool ((a0.fStatics.getD p1.toNat default).fDiscard), .int .i64 ((a0.fStatics.getD p1.toNat default).fAdmin), .int .i64 ((a0.fStatics.getD p1.toNat default).fTag)]]⟩ [] [] (by kernel_rfl) nil_all trivial ?_
              refine then_n ?_
              refine awp_cond (b := decide (r10 < 0)) (by kernel_rfl) (fun b42 => ?_) (fun b42 => ?_)
              · have h43 := cond_t b42 h41
                refine awp_seq ?_
                refine awp_reg [] [2] 0 ⟨63, [(2, .int .i64 5)], []⟩ [] [] (by kernel_rfl) nil_all trivial ?_
                refine then_n ?_
                refine awp_ret ?_
                refine then_r ?_
                refine then_r ?_
                refine inb_r ?_
                refine then_r ?_
                obtain rfl := Option.some.inj h43
                exact round_r ⟨rfl, ends_r (.int .i64 5) (by kernel_rfl) Sub.rfl⟩
              · have h44 := cond_f b42 h41
                refine awp_skip ?_
                refine then_n ?_
                refine awp_seq ?_
                obtain ⟨c45, h46⟩ := gd_some h44
                refine awp_reg [] [1, 3, 4, 13, 14, 15, 39] 2 ⟨63, [(1, .ref 0 0), (3, .int .i64 p1), (4, .ref 1 0), (13, sL 7 c_TStaticRoute a0.fStatics), (14, .int .i64 (a0.fStatics.length : Int)), (15, .int .i64 p1), (39, .bool (((a0.fInterfaces.getD r10.toNat default).fLen) == 0))], [.box (c_TRouter a0), .box [.int .u32 (((a0.fStatics.getD p1.toNat default).fPrefix).fAddr), .int .i64 (((a0.fStatics.getD p1.toNat default).fPrefix).fLen), .int .u32 ((a0.fStatics.getD p1.toNat default).fNext), .str ((a0.fStatics.getD p1.toNat default).fIface), .bool ((a0.fStatics.getD p1.toNat default).fDiscard), .int .i64 ((a0.fStatics.getD p1.toNat default).fAdmin), .int .i64 ((a0.fStatics.getD p1.toNat default).fTag)]]⟩ [decide (0 ≤ r10), decide (r10 < (a0.fInterfaces.length : Int))] [] (by kernel_rfl) c45 trivial ?_
                refine then_n ?_
                refine awp_cond (b := ((a0.fInterfaces.getD r10.toNat default).fLen) == 0) (by kernel_rfl) (fun b47 => ?_) (fun b47 => ?_)
                · have h48 := cond_t b47 h46
                  refine awp_seq ?_
                  refine awp_reg [] [2] 0 ⟨63, [(2, .int .i64 1)], []⟩ [] [] (by kernel_rfl) nil_all trivial ?_
                  refine then_n ?_
                  refine awp_ret ?_
                  refine then_r ?_
                  refine inb_r ?_
                  refine then_r ?_
                  obtain rfl := Option.some.inj h48
                  exact round_r ⟨rfl, ends_r (.int .i64 1) (by kernel_rfl) Sub.rfl⟩
                · have h49 := cond_f b47 h46
                  refine awp_skip ?_
                  exact then_le (le_keep' [1, 3, 4, 13, 14, 15] (by kernel_rfl)) (k15 () h49)
            · have h39 := cond_f b37 h14
              refine awp_skip ?_
              exact then_le (le_keep' [1, 3, 4, 13, 14, 15] (by kernel_rfl)) (k15 () h39)
      · have h7 := cond_f b5 h4
        refine awp_exit ?_
        refine then_e ?_
        obtain rfl := Option.some.inj h7
        exact round_e ⟨rfl, Le.trans (s' := ⟨63, [], [.box (c_TRouter a0)]⟩) (le_keep' [] (by kernel_rfl)) (le_cut (n := 0) (by kernel_rfl))⟩
    · intro e52 s53 o54
      rcases y11 with g12 | y13
      · have h55 := elim_l h51
        obtain ⟨rfl, l57⟩ := o54
        refine inb_here ?_
        refine then_le (s' := ⟨63, [], []⟩) (l57) ?_
        refine awp_seq ?_
        refine awp_reg [] [2] 0 ⟨63, [(2, .int .i64 0)], []⟩ [] [] (by kernel_rfl) nil_all trivial ?_
        refine then_n ?_
        refine awp_ret ?_
        obtain rfl := Option.some.inj h55
        exact ends_r (.int .i64 0) (by kernel_rfl) Sub.rfl
      · have h56 := elim_r h51
        obtain ⟨rfl, n58⟩ := o54
        refine inb_r ?_
        refine then_r ?_
        obtain rfl := Option.some.inj h56
        exact n58
end Nv
